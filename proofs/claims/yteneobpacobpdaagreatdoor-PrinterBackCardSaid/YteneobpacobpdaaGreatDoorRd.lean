/-
  What is printed, in plain Lean: its tokens, and what the parser gives for them.
-/
import Derived.Test.YteneobpacobpdaaGreatDoorPbG
import Derived.Test.YteneobpacobpdaaGreatDoorPrF
set_option linter.unusedSimpArgs false
set_option linter.unusedVariables false
namespace Go.Proofs.YteneobpacobpdaaGreatDoor
open Go.RowKit
namespace Rd
open Lx Fm Dc Pr Pa
abbrev Tk := Nat × Bytes
def parK (b : Bool) (l : List Tk) : List Tk := if b then (4, cOpen) :: (l ++ [(4, cShut)]) else l
abbrev numS (n : Nat) : Bytes := fmtL false n
def sT : Tm → Nat
 | .add _ _ => 1
 | .sub _ _ => 1
 | .mul _ _ => 2
 | .neg _ => 3
 | .pow _ _ => 4
 | _ => 5
theorem strT_s (t : Tm) : strT t = (sT t : Int) := by cases t <;> rfl
theorem sT_le (t : Tm) : 1 ≤ sT t ∧ sT t ≤ 5 := by cases t <;> simp [sT]
def tkT : Tm → List Tk
 | .odd => []
 | .num _ l => [(1, numS (valN l))]
 | .name s => [(2, s.data.toList)]
 | .add l r => parK (decide (sT l < 1)) (tkT l) ++ (4, cPlus) :: parK (decide (sT r < 2)) (tkT r)
 | .sub l r => parK (decide (sT l < 1)) (tkT l) ++ (4, cMinus) :: parK (decide (sT r < 2)) (tkT r)
 | .mul l r => parK (decide (sT l < 2)) (tkT l) ++ (4, cStar) :: parK (decide (sT r < 3)) (tkT r)
 | .neg t => (4, cMinus) :: parK (decide (sT t < 3)) (tkT t)
 | .pow t e => parK (decide (sT t < 5)) (tkT t) ++ [(4, cHat), (1, numS e.toNat)]
def okR : Tm → Prop
 | .odd => False
 | .num neg l => neg = false ∧ trimN l = l ∧ ∀ x ∈ l, x < 4294967296
 | .name s => Nm s.data.toList
 | .add l r => okR l ∧ okR r
 | .sub l r => okR l ∧ okR r
 | .mul l r => okR l ∧ okR r
 | .neg t => okR t
 | .pow t e => okR t ∧ 0 ≤ e ∧ digN e.toNat ≤ 40
def dgR : Tm → Bool
 | .num _ l => decide (digN (valN l) ≤ 40)
 | .add l r => dgR l && dgR r
 | .sub l r => dgR l && dgR r
 | .mul l r => dgR l && dgR r
 | .neg t => dgR t
 | .pow t _ => dgR t
 | _ => true
def rd : Tm → Tm
 | .odd => .odd
 | .num _ l => numT (numS (valN l))
 | .name s => .name s
 | .add l r => .add (rd l) (rd r)
 | .sub l r => .sub (rd l) (rd r)
 | .mul l r => .mul (rd l) (rd r)
 | .neg t => .neg (rd t)
 | .pow t e => .pow (rd t) (expN (numS e.toNat))
def Sy (r : Bytes) (L : List Tk) (b : Bool) : Prop := ∀ p, if b = true then (lexBl p r).2 = (0, 0) ∧ (lexBl p r).1.map kt = L else (lexBl p r).2.2 = 8
theorem Sy.says {r : Bytes} {L : List Tk} (h : Sy r L true) : Says r L := fun p => by have := h p; rwa [if_pos rfl] at this
theorem Sy.lim {r : Bytes} {L : List Tk} (h : Sy r L false) (p : Nat) : (lexBl p r).2.2 = 8 := by have := h p; rwa [if_neg (by simp)] at this
theorem Sy.of {r : Bytes} {L : List Tk} (h : Says r L) : Sy r L true := fun p => by rw [if_pos rfl]; exact h p
theorem Sy.nil : Sy [] [] true := Sy.of Says.nil
theorem Sy.app {a b : Bytes} {c : UInt8} {L M : List Tk} {x y : Bool} (hc : stp c = true) (ha : Sy a L x) (hb : Sy (c :: b) M y) : Sy (a ++ c :: b) (L ++ M) (x && y) := by
 intro p
 have e := lexBl_stp c hc b p a
 have h1 := ha p
 have h2 := hb (p + a.length)
 cases x with
 | false =>
  simp only [Bool.false_eq_true, if_false] at h1
  simp only [Bool.false_and, Bool.false_eq_true, if_false]
  rw [if_neg (by rw [h1]; decide)] at e
  rw [e]
  exact h1
 | true =>
  simp only [if_true] at h1
  rw [if_pos (by rw [h1.1])] at e
  rw [e, Bool.true_and]
  cases y with
  | false =>
   simp only [Bool.false_eq_true, if_false] at h2 ⊢
   exact h2
  | true =>
   simp only [if_true] at h2 ⊢
   exact ⟨h2.1, by rw [List.map_append, h1.2, h2.2]⟩
theorem Sy.blank {b : Bytes} {c : UInt8} {M : List Tk} {y : Bool} (hc : bl c = true) (hb : Sy b M y) : Sy (c :: b) M y := by
 intro p
 rw [lexBl_blank p c b hc]
 exact hb (p + 1)
theorem Sy.tok {c : UInt8} {r w rest : Bytes} {k : Nat} {M : List Tk} {y : Bool} (hbl : bl c = false) (hw : c :: r = w ++ rest) (hn : next (c :: r) = (k, w.length, 0)) (hb : Sy rest M y) : Sy (c :: r) ((k, w) :: M) y := by
 intro p
 rw [lexBl_non _ _ _ hbl, lexA_ok' _ _ (by simp) (by rw [hn]), hn]
 dsimp only
 have ht : (c :: r).take w.length = w := by rw [hw]; exact List.take_left
 have hd : (c :: r).drop w.length = rest := by rw [hw]; exact List.drop_left
 rw [ht, hd]
 have h := hb (p + w.length)
 cases y with
 | false => rw [if_neg (by simp)] at h ⊢; exact h
 | true => rw [if_pos rfl] at h ⊢; exact ⟨h.1, by rw [List.map_cons, h.2]; rfl⟩
theorem Sy.bad {c : UInt8} {r : Bytes} (L : List Tk) (hbl : bl c = false) (hn : next (c :: r) = (0, 0, 8)) : Sy (c :: r) L false := by
 intro p
 rw [if_neg (by simp), lexBl_non _ _ _ hbl, lexA_err _ _ (by simp) (by rw [hn]; decide), hn]
theorem Sy.sign {b : Bytes} {c : UInt8} {M : List Tk} {y : Bool} (hc : one c = true) (hb : Sy b M y) : Sy (c :: b) ((4, [c]) :: M) y :=
 Sy.tok (by unfold one at hc; simp at hc; simpa using hc.1.2) rfl (next_one c b hc) hb
theorem Sy.word {w rest : Bytes} {M : List Tk} {y : Bool} (h : Wd w) (hr : run aln rest = 0) (hb : Sy rest M y) : Sy (w ++ rest) ((3, w) :: M) y := by
 have hn := next_wd w rest h hr
 obtain ⟨c, r, rfl, h1, h2, h3⟩ := h.hd
 exact Sy.tok h3 rfl hn hb
theorem Sy.name {w : Bytes} (h : Nm w) : Sy w [(2, w)] true := by
 have := Says.name (rest := []) h rfl Says.nil
 rw [List.append_nil] at this
 exact Sy.of this
theorem revd_hd : ∀ (m N : Nat), N ≤ m → 0 < N → ∃ d l, (revd N).reverse = d :: l ∧ 1 ≤ d
 | 0, N, h, hp => by omega
 | m + 1, N, h, hp => by
  rw [revd_pos hp, List.reverse_cons]
  by_cases h0 : N / 10 = 0
  ·rw [h0, revd_zero]
   exact ⟨N % 10, [], rfl, by omega⟩
  ·obtain ⟨d, l, e, hd⟩ := revd_hd m (N / 10) (by omega) (by omega)
   rw [e]
   exact ⟨d, l ++ [N % 10], rfl, hd⟩
theorem revd_ten : ∀ (m N : Nat), N ≤ m → ∀ x ∈ revd N, x < 10
 | 0, N, h, x, hx => by
  obtain rfl : N = 0 := by omega
  rw [revd_zero] at hx
  exact absurd hx List.not_mem_nil
 | m + 1, N, h, x, hx => by
  by_cases hp : 0 < N
  ·rw [revd_pos hp] at hx
   rcases List.mem_cons.1 hx with rfl | hx
   ·omega
   ·exact revd_ten m (N / 10) (by omega) x hx
  ·obtain rfl : N = 0 := by omega
   rw [revd_zero] at hx
   exact absurd hx List.not_mem_nil
theorem asc_N {d : Nat} (h : d < 10) : (asc d).toNat = 48 + d := by have := asc_nat h; omega
theorem asc_dig {d : Nat} (h : d < 10) : dig (asc d) = true := by
 unfold dig
 rw [asc_N h]
 simp
 omega
theorem numS_pos {n : Nat} (h : 0 < n) : numS n = (revd n).reverse.map asc := by
 show fmtL false n = _
 unfold fmtL
 rw [if_neg (by omega)]
 simp
theorem numS_facts (n : Nat) : (numS n).all dig = true ∧ ∃ c r, numS n = c :: r ∧ (r = [] ∨ c.toNat ≠ 48) ∧ dig c = true ∧ bl c = false := by
 by_cases h : 0 < n
 ·rw [numS_pos h]
  refine ⟨?_, ?_⟩
  ·rw [List.all_eq_true]
   intro x hx
   obtain ⟨d, hd, rfl⟩ := List.mem_map.1 hx
   exact asc_dig (revd_ten n n (Nat.le_refl _) d (List.mem_reverse.1 hd))
  ·obtain ⟨d, l, e, hd⟩ := revd_hd n n (Nat.le_refl _) h
   have hlt : d < 10 := revd_ten n n (Nat.le_refl _) d (List.mem_reverse.1 (by rw [e]; exact List.mem_cons_self))
   rw [e]
   refine ⟨asc d, l.map asc, rfl, .inr (by rw [asc_N hlt]; omega), asc_dig hlt, ?_⟩
   unfold bl
   rw [asc_N hlt]
   simp
   omega
 ·obtain rfl : n = 0 := by omega
  exact ⟨by decide, 48, [], rfl, .inl rfl, by decide, by decide⟩
theorem numS_len (n : Nat) : (numS n).length = digN n := by
 have := fmtS_size n
 rw [← this]
 show (fmtL false n).length = ((fmtL false n).toArray).size
 simp
theorem decF_snoc (a : Nat) (l : Bytes) (c : UInt8) : decF a (l ++ [c]) = decF a l * 10 + (c.toNat - 48) := by
 unfold decF
 rw [List.foldl_append]
 rfl
theorem decV_rev : ∀ (m N : Nat), N ≤ m → decV ((revd N).reverse.map asc) = N
 | 0, N, h => by
  obtain rfl : N = 0 := by omega
  rw [revd_zero]
  rfl
 | m + 1, N, h => by
  by_cases hp : 0 < N
  ·rw [revd_pos hp, List.reverse_cons, List.map_append]
   show decF 0 (_ ++ [asc (N % 10)]) = N
   rw [decF_snoc]
   have := decV_rev m (N / 10) (by omega)
   unfold decV at this
   rw [this, asc_N (by omega)]
   omega
  ·obtain rfl : N = 0 := by omega
   rw [revd_zero]
   rfl
theorem decV_numS (n : Nat) : decV (numS n) = n := by
 by_cases h : 0 < n
 ·rw [numS_pos h]
  exact decV_rev n n (Nat.le_refl _)
 ·obtain rfl : n = 0 := by omega
  decide
theorem Sy.num (n : Nat) : Sy (numS n) [(1, numS n)] (decide (digN n ≤ 40)) := by
 obtain ⟨ha, c, r, e, h1, h2, h3⟩ := numS_facts n
 have hr := run_all dig (numS n) [] ha rfl
 rw [List.append_nil] at hr
 have hl := numS_len n
 by_cases h : digN n ≤ 40
 ·rw [decide_eq_true h]
  have hn : next (c :: r) = (1, (numS n).length, 0) := by
   rw [← e]
   unfold next
   rw [e]
   dsimp only
   rw [if_pos h2, ← e, hr, if_neg ?_, if_neg (by omega)]
   rintro ⟨a, b⟩
   rcases h1 with h1 | h1
   ·subst h1
    rw [e] at b
    simp at b
   ·exact h1 a
  have := Sy.tok (rest := []) h3 (by rw [List.append_nil]; exact e.symm) hn Sy.nil
  rw [← e] at this
  exact this
 ·rw [decide_eq_false h]
  have hn : next (c :: r) = (0, 0, 8) := by
   rw [← e]
   unfold next
   rw [e]
   dsimp only
   rw [if_pos h2, ← e, hr, if_neg ?_, if_pos (by omega)]
   rintro ⟨a, b⟩
   rcases h1 with h1 | h1
   ·subst h1
    rw [e] at b
    simp at b
   ·exact h1 a
  have := Sy.bad [(1, numS n)] h3 hn
  rw [← e] at this
  exact this
theorem sy_par (b : Bool) {s : Bytes} {L : List Tk} {y : Bool} (h : Sy s L y) : Sy (par b s) (parK b L) y := by
 cases b with
 | false => exact h
 | true =>
  have := Sy.sign (c := 40) (by decide) (Sy.app (c := 41) (by decide) h (Sy.sign (c := 41) (by decide) Sy.nil))
  rw [Bool.and_true] at this
  exact this
theorem dec_s (t : Tm) (k : Nat) : decide (strT t < (k : Int)) = decide (sT t < k) := by rw [strT_s]; by_cases h : sT t < k <;> simp [h] <;> omega
theorem cons_app {α : Type} (a b c : List α) (x : α) : a ++ (x :: b) ++ c = a ++ x :: (b ++ c) := by simp
theorem sy_T : ∀ t : Tm, okR t → Sy (txtT t) (tkT t) (dgR t)
 | .odd, h => h.elim
 | .num neg l, h => by
  obtain rfl : neg = false := h.1
  exact Sy.num (valN l)
 | .name s, h => Sy.name h
 | .add l r, h => by
  have := Sy.app (c := 32) (by decide) (sy_par (decide (sT l < 1)) (sy_T l h.1)) (Sy.blank (c := 32) (by decide) (Sy.sign (c := 43) (by decide) (Sy.blank (c := 32) (by decide) (sy_par (decide (sT r < 2)) (sy_T r h.2)))))
  have e1 := dec_s l 1
  have e2 := dec_s r 2
  unfold txtT tkT dgR
  rw [show (1 : Int) = ((1 : Nat) : Int) from rfl, show (2 : Int) = ((2 : Nat) : Int) from rfl, e1, e2, cons_app]
  exact this
 | .sub l r, h => by
  have := Sy.app (c := 32) (by decide) (sy_par (decide (sT l < 1)) (sy_T l h.1)) (Sy.blank (c := 32) (by decide) (Sy.sign (c := 45) (by decide) (Sy.blank (c := 32) (by decide) (sy_par (decide (sT r < 2)) (sy_T r h.2)))))
  have e1 := dec_s l 1
  have e2 := dec_s r 2
  unfold txtT tkT dgR
  rw [show (1 : Int) = ((1 : Nat) : Int) from rfl, show (2 : Int) = ((2 : Nat) : Int) from rfl, e1, e2, cons_app]
  exact this
 | .mul l r, h => by
  have := Sy.app (c := 42) (by decide) (sy_par (decide (sT l < 2)) (sy_T l h.1)) (Sy.sign (c := 42) (by decide) (sy_par (decide (sT r < 3)) (sy_T r h.2)))
  have e1 := dec_s l 2
  have e2 := dec_s r 3
  unfold txtT tkT dgR
  rw [show (3 : Int) = ((3 : Nat) : Int) from rfl, show (2 : Int) = ((2 : Nat) : Int) from rfl, e1, e2, cons_app]
  exact this
 | .neg t, h => by
  have := Sy.sign (c := 45) (by decide) (sy_par (decide (sT t < 3)) (sy_T t h))
  have e1 := dec_s t 3
  unfold txtT tkT dgR
  rw [show (3 : Int) = ((3 : Nat) : Int) from rfl, e1]
  exact this
 | .pow t e, h => by
  have h2 := Sy.num e.toNat
  rw [decide_eq_true h.2.2] at h2
  have := Sy.app (c := 94) (by decide) (sy_par (decide (sT t < 5)) (sy_T t h.1)) (Sy.sign (c := 94) (by decide) h2)
  have e1 := dec_s t 5
  rw [Bool.and_true] at this
  unfold txtT tkT dgR
  rw [show (5 : Int) = ((5 : Nat) : Int) from rfl, e1]
  exact this
theorem par_len (b : Bool) {s : Bytes} {L : List Tk} (h : L.length ≤ s.length) : (parK b L).length ≤ (par b s).length := by
 cases b with
 | false => exact h
 | true => simp [par, parK]; exact h
end Rd
end Go.Proofs.YteneobpacobpdaaGreatDoor
namespace Go.Proofs.YteneobpacobpdaaGreatDoor
open Go.RowKit
namespace Rd
open Lx Fm Dc Pr Pa
theorem nodup_len : ∀ (L M : List ByteArray), L.Nodup → (∀ x ∈ L, x ∈ M) → L.length ≤ M.length
 | [], M, _, _ => Nat.zero_le _
 | a :: L, M, hn, hs => by
  have ha := hs a (List.mem_cons_self ..)
  rw [List.nodup_cons] at hn
  obtain ⟨P, Q, rfl⟩ := List.append_of_mem ha
  have h := nodup_len L (P ++ Q) hn.2 (fun x hx => by
   have hne : x ≠ a := by rintro rfl; exact hn.1 hx
   have h1 := hs x (List.mem_cons_of_mem _ hx)
   rw [List.mem_append, List.mem_cons] at h1
   rw [List.mem_append]
   rcases h1 with h1 | h1 | h1
   ·exact .inl h1
   ·exact absurd h1 hne
   ·exact .inr h1)
  rw [List.length_append] at h
  rw [List.length_cons, List.length_append, List.length_cons]; omega
structure Iv (NS : List ByteArray) (s : PS) : Prop where
 over : s.over = false
 nd : s.names.Nodup
 sub : ∀ n ∈ s.names, n ∈ NS
structure Pst (G : Prop) (NS : List ByteArray) (d r : Nat) (s s' : PS) : Prop where
 depth : s'.depth = s.depth
 rels : s'.rels = s.rels + r
 inv : G → s.depth + d ≤ 60 → s.rels + r ≤ 16 → Iv NS s → Iv NS s'
section
variable {NS : List ByteArray} {G G1 G2 : Prop} {d d1 d2 r r1 r2 : Nat} {a b c s s1 : PS} {T : List Tok}
theorem Pst.refl : Pst True NS 0 0 s s := ⟨rfl, rfl, fun _ _ _ h => h⟩
theorem Pst.trans (h : Pst G1 NS d1 r1 a b) (k : Pst G2 NS d2 r2 b c) : Pst (G1 ∧ G2) NS (max d1 d2) (r1 + r2) a c where
 depth := k.depth.trans h.depth
 rels := by rw [k.rels, h.rels]; omega
 inv := fun g hd hr hi => k.inv g.2 (by rw [h.depth]; omega) (by rw [h.rels]; omega) (h.inv g.1 (by omega) (by omega) hi)
theorem Pst.mono (h : Pst G1 NS d1 r1 a b) (hg : G → G1) (hd : d1 ≤ d) (hr : r1 = r) : Pst G NS d r a b where
 depth := h.depth
 rels := by rw [h.rels, hr]
 inv := fun g h1 h2 hi => h.inv (hg g) (by omega) (by omega) hi
theorem Pst.adv : Pst True NS 0 0 s (adv s) := ⟨rfl, rfl, fun _ _ _ h => ⟨h.over, h.nd, h.sub⟩⟩
theorem Pst.inc (h : Pst G NS d r (inc T s) s1) : Pst G NS (d + 1) r s (dn s1) where
 depth := by show s1.depth - 1 = _; rw [h.depth, inc_depth]; omega
 rels := by show s1.rels = _; rw [h.rels]; unfold Pa.inc; split <;> simp [exc_rels]
 inv := fun g h1 h2 hi => by
  have e : Pa.inc T s = { s with depth := s.depth + 1 } := by unfold Pa.inc; rw [if_neg (by omega)]
  rw [e] at h
  have := h.inv g (by show s.depth + 1 + d ≤ 60; omega) h2 ⟨hi.over, hi.nd, hi.sub⟩
  exact ⟨this.over, this.nd, this.sub⟩
theorem Pst.opn (h : Pst G NS d r (opn T s) s1) : Pst G NS (d + 1) r s (dn s1) :=
 ((Pst.adv.trans h).mono (fun g => ⟨trivial, g⟩) (by omega) (by omega)).inc
theorem Pst.name (hn : NS.length ≤ 4) : Pst (bs (pk T s).text ∈ NS) NS 0 0 s (nam T s) where
 depth := by show (nm1 T s).depth = _; unfold nm1; split; rfl; split <;> simp [exc_depth]
 rels := by show (nm1 T s).rels = _; unfold nm1; split; rfl; split <;> simp [exc_rels]
 inv := fun g _ _ hi => by
  have hk : Iv NS (nm1 T s) := by
   unfold nm1
   split
   ·exact hi
   ·rename_i hm
    have hd : (s.names ++ [bs (pk T s).text]).Nodup := nodup_snoc hi.nd hm
    have hs : ∀ n ∈ s.names ++ [bs (pk T s).text], n ∈ NS := fun n hn => by
     rcases List.mem_append.1 hn with h | h
     ·exact hi.sub n h
     ·rw [List.mem_singleton.1 h]; exact g
    have hl : (s.names ++ [bs (pk T s).text]).length ≤ NS.length := nodup_len _ _ hd hs
    rw [List.length_append] at hl
    rw [if_neg (by simp at hl; omega)]
    exact ⟨hi.over, hd, hs⟩
  exact ⟨hk.over, hk.nd, hk.sub⟩
theorem Pst.meas (s : PS) (t : Tok) (x : Tm) (l : List Tm) : Pst (large x = false) NS 0 0 s (meas s t x l) where
 depth := by unfold Pa.meas; split; rw [exc_depth]; rfl
 rels := by unfold Pa.meas; split; rw [exc_rels]; rfl; rfl
 inv := fun g _ _ hi => by unfold Pa.meas; rw [if_neg (by rw [g]; simp)]; exact hi
theorem Pst.pow (x : Tm) (s : PS) : Pst (large (.pow x (expN (pk T (Pa.adv s)).text)) = false ∧ expN (pk T (Pa.adv s)).text ≤ 8) NS 0 0 s (powS T x s) := by
 unfold powS
 have h : Pst (expN (pk T (Pa.adv s)).text ≤ 8) NS 0 0 s (if 8 < expN (pk T (Pa.adv s)).text then exc (Pa.adv (Pa.adv s)) (pk T (Pa.adv s)).pos else Pa.adv (Pa.adv s)) := by
  refine ⟨?_, ?_, fun g _ _ hi => ?_⟩
  ·split; rw [exc_depth]; rfl; rfl
  ·split; rw [exc_rels]; rfl; rfl
  ·rw [if_neg (by omega)]; exact ⟨hi.over, hi.nd, hi.sub⟩
 exact (h.trans (Pst.meas _ _ _ _)).mono (fun g => ⟨g.2, g.1⟩) (by omega) rfl
theorem Pst.rel : Pst True NS 0 1 s (Pa.relS T s) where
 depth := by show (rel1 T s).depth = _; unfold rel1; split; rw [exc_depth]; rfl
 rels := by show (rel1 T s).rels = _; unfold rel1; split; rw [exc_rels]; rfl
 inv := fun _ _ h2 hi => by
  have e : Pa.relS T s = Pa.adv { s with rels := s.rels + 1 } := by unfold Pa.relS rel1; rw [if_neg (by omega)]
  rw [e]
  exact ⟨hi.over, hi.nd, hi.sub⟩
end
def LRt (T : List Tok) (k : Nat) (x : Tm) (s s1 : PS) : Prop := match k with
 | 0 => Big T (.term none) s (some (.tm x)) s1
 | 1 => ∀ r s2, Big T (.termL x) s1 r s2 → Big T (.term none) s r s2
 | 2 => ∀ r s2, Big T (.prodL x) s1 r s2 → Big T (.prod none) s r s2
 | 3 => Big T (.fac none) s (some (.tm x)) s1
 | 4 => Big T (.pow none) s (some (.tm x)) s1
 | _ => Big T .prim s (some (.tm x)) s1
def Ct (k : Nat) (R : List Tk) : Prop := (k ≤ 4 → seesK (R.headD (0, [])) cHat = false) ∧ (k ≤ 1 → seesK (R.headD (0, [])) cStar = false) ∧ (k = 0 → (seesK (R.headD (0, [])) cPlus || seesK (R.headD (0, [])) cMinus) = false)
theorem Ct.up {k j : Nat} {R : List Tk} (h : Ct k R) (hj : k ≤ j) : Ct j R := ⟨fun e => h.1 (by omega), fun e => h.2.1 (by omega), fun e => h.2.2 (by omega)⟩
theorem ct_shut (k : Nat) (R : List Tk) : Ct k ((4, cShut) :: R) := ⟨fun _ => rfl, fun _ => rfl, fun _ => rfl⟩
theorem ct_nil (k : Nat) : Ct k [] := ⟨fun _ => rfl, fun _ => rfl, fun _ => rfl⟩
section
variable {T : List Tok}
theorem sees_text {s : PS} {x y : Bytes} (h : sees T s x = true) (hy : (x == y) = false) : sees T s y = false := by
 obtain ⟨h1, h2⟩ := sees_kind h
 unfold sees
 rw [h2, hy, Bool.and_false]
theorem kind_sees {s : PS} {y : Bytes} (h3 : (pk T s).kind ≠ 3) (h4 : (pk T s).kind ≠ 4) : sees T s y = false := by
 unfold sees
 rw [decide_eq_false h3, decide_eq_false h4]
 rfl
theorem prim_head {s s1 : PS} {x : PV} (h : Big T .prim s (some x) s1) : ((pk T s).kind = 1 ∨ (pk T s).kind = 2) ∨ sees T s cOpen = true := by
 cases h with
 | pr_num h => exact .inl (.inl h)
 | pr_name h => exact .inl (.inr h)
 | pr_ok h _ _ => exact .inr h
theorem pow_head {s s1 : PS} {x : PV} (h : Big T (.pow none) s (some x) s1) : ((pk T s).kind = 1 ∨ (pk T s).kind = 2) ∨ sees T s cOpen = true := by
 cases h with
 | po_go h _ => exact prim_head h
theorem head_no {s : PS} {y : Bytes} (h : ((pk T s).kind = 1 ∨ (pk T s).kind = 2) ∨ sees T s cOpen = true) (hy : (cOpen == y) = false) : sees T s y = false := by
 rcases h with (h | h) | h
 ·exact kind_sees (by omega) (by omega)
 ·exact kind_sees (by omega) (by omega)
 ·exact sees_text h hy
theorem fac_head {s s1 : PS} {x : PV} (h : Big T (.fac none) s (some x) s1) : (((pk T s).kind = 1 ∨ (pk T s).kind = 2) ∨ sees T s cOpen = true) ∨ sees T s cMinus = true := by
 cases h with
 | fa_pow _ h => exact .inl (pow_head h)
 | fa_neg h _ => exact .inr h
theorem term_head {s s1 : PS} {x : PV} (h : Big T (.term none) s (some x) s1) : (((pk T s).kind = 1 ∨ (pk T s).kind = 2) ∨ sees T s cOpen = true) ∨ sees T s cMinus = true := by
 cases h with
 | te_go h _ => cases h with
  | pd_go h _ => exact fac_head h
theorem term_no {s s1 : PS} {x : PV} (h : Big T (.term none) s (some x) s1) {y : Bytes} (hy : (cOpen == y) = false) (hz : (cMinus == y) = false) : sees T s y = false := by
 rcases term_head h with h | h
 ·exact head_no h hy
 ·exact sees_text h hz
theorem LRt.low {k : Nat} {x : Tm} {s s1 : PS} (hk : k ≤ 4) (h : LRt T (k + 1) x s s1) (hc : Ct k (rst T s1)) : LRt T k x s s1 := by
 match k, hk with
 | 0, _ => exact h _ _ (.teL_end (by rw [sees_k, sees_k]; exact hc.2.2 rfl))
 | 1, _ => exact fun r s2 hr => .te_go (h _ _ (.pdL_end (by rw [sees_k]; exact hc.2.1 (by omega)))) hr
 | 2, _ => exact fun r s2 hr => .pd_go h hr
 | 3, _ => exact .fa_pow (head_no (pow_head h) (by decide)) h
 | 4, _ => exact .po_go h (.pT_end (by rw [sees_k]; exact hc.1 (by omega)))
theorem LRt.to {x : Tm} {s s1 : PS} {k : Nat} (hc : Ct k (rst T s1)) : ∀ n, k + n ≤ 5 → LRt T (k + n) x s s1 → LRt T k x s s1
 | 0, _, h => h
 | n + 1, hn, h => LRt.to hc n (by omega) (LRt.low (by omega) h (hc.up (by omega)))
theorem par_T {NS : List ByteArray} {G : Prop} {L : List Tk} {j : Nat} {x : Tm} (hj : 1 ≤ j ∧ j ≤ 5)
  (hP : ∀ (s : PS) (R : List Tk), rst T s = L ++ R → Ct j R → ∃ s1, rst T s1 = R ∧ Pst G NS L.length 0 s s1 ∧ LRt T j x s s1)
  (k : Nat) (hk : k ≤ 5) (s : PS) (R : List Tk) (hs : rst T s = parK (decide (j < k)) L ++ R) (hc : Ct k R) :
  ∃ s1, rst T s1 = R ∧ Pst G NS (parK (decide (j < k)) L).length 0 s s1 ∧ LRt T k x s s1 := by
 by_cases h : j < k
 ·rw [decide_eq_true h] at hs ⊢
  have hs' : rst T s = (4, cOpen) :: (L ++ (4, cShut) :: R) := by rw [hs]; simp [parK]
  obtain ⟨s1, e1, p1, l1⟩ := hP (opn T s) ((4, cShut) :: R) (rst_tail hs' (opn_next _ _)) (ct_shut _ _)
  have l0 : LRt T 0 x (opn T s) s1 := LRt.to (by rw [e1]; exact ct_shut _ _) j (by omega) (by rw [Nat.zero_add]; exact l1)
  have e2 : rst T (dn s1) = (4, cShut) :: R := rst_same e1 rfl
  have b5 : LRt T 5 x s (adv (dn s1)) := Big.pr_ok (by rw [sees_hd2 hs']; rfl) l0 (by rw [sees_hd2 e2]; rfl)
  have e3 : rst T (adv (dn s1)) = R := rst_tail e2 rfl
  refine ⟨adv (dn s1), e3, ((Pst.opn p1).trans Pst.adv).mono (fun g => ⟨g, trivial⟩) (by simp [parK]) rfl, LRt.to (by rw [e3]; exact hc) (5 - k) (by omega) (by rw [show k + (5 - k) = 5 by omega]; exact b5)⟩
 ·rw [decide_eq_false h] at hs ⊢
  obtain ⟨s1, e1, p1, l1⟩ := hP s R hs (hc.up (by omega))
  exact ⟨s1, e1, p1, LRt.to (by rw [e1]; exact hc) (j - k) (by omega) (by rw [show k + (j - k) = j by omega]; exact l1)⟩
def GT (NS : List ByteArray) (t : Tm) : Prop := gdT t = true ∧ ∀ n ∈ namesT t, n ∈ NS
theorem bs_of (s : ByteArray) : bs s.data.toList = s := by cases s; simp [bs]
theorem rd_T (NS : List ByteArray) (hNS : NS.length ≤ 4) : ∀ (t : Tm), okR t → ∀ (s : PS) (R : List Tk), rst T s = tkT t ++ R → Ct (sT t) R →
  ∃ s1, rst T s1 = R ∧ Pst (GT NS (rd t)) NS (tkT t).length 0 s s1 ∧ LRt T (sT t) (rd t) s s1
 | .odd, h => h.elim
 | .num _ l, _ => fun s R hs _ => by
  have hs' : rst T s = (1, numS (valN l)) :: R := hs
  obtain ⟨k1, k2⟩ := pk_hd2 hs'
  refine ⟨adv s, rst_tail hs' rfl, Pst.adv.mono (fun _ => trivial) (Nat.zero_le _) rfl, ?_⟩
  have := Big.pr_num (T := T) k1
  rw [k2] at this
  exact this
 | .name n, _ => fun s R hs _ => by
  have hs' : rst T s = (2, n.data.toList) :: R := hs
  obtain ⟨k1, k2⟩ := pk_hd2 hs'
  refine ⟨nam T s, rst_tail hs' (nam_next _ _), (Pst.name hNS).mono (fun g => by rw [k2, bs_of]; exact g.2 n (List.mem_singleton.2 rfl)) (Nat.zero_le _) rfl, ?_⟩
  have := Big.pr_name (T := T) k1
  rw [k2, bs_of] at this
  exact this
 | .add l r, h => fun s R hs hc => by
  unfold tkT at hs ⊢
  rw [List.append_assoc, List.cons_append] at hs
  obtain ⟨s1, e1, p1, l1⟩ := par_T (sT_le l) (rd_T NS hNS l h.1) 1 (by omega) s _ hs ⟨fun _ => rfl, fun _ => rfl, fun h => absurd h (by omega)⟩
  have e2 : rst T (adv s1) = _ := rst_tail e1 rfl
  obtain ⟨s3, e3, p3, l3⟩ := par_T (sT_le r) (rd_T NS hNS r h.2) 2 (by omega) (adv s1) R e2 (hc.up (by simp [sT]))
  have b3 : Big T (.prod none) (adv s1) (some (.tm (rd r))) s3 := l3 _ _ (.pdL_end (by rw [sees_k, e3]; exact hc.2.1 (Nat.le_refl _)))
  have hsum : sumT (pk T s1) (rd l) (rd r) = .add (rd l) (rd r) := by unfold sumT; rw [(pk_hd2 e1).2, if_neg (by decide)]
  refine ⟨meas s3 (pk T s1) (.add (rd l) (rd r)) [rd l, rd r], rst_same e3 (meas_next _ _ _ _), (p1.trans (Pst.adv.trans (p3.trans (Pst.meas _ _ _ _)))).mono ?_ (by simp only [List.length_append, List.length_cons]; omega) rfl, ?_⟩
  ·rintro ⟨g1, g2⟩
   simp only [rd, gdT, Bool.and_eq_true, Bool.not_eq_true'] at g1
   simp only [rd, namesT, List.mem_append] at g2
   exact ⟨⟨g1.1.1, fun n hn => g2 n (.inl hn)⟩, trivial, ⟨g1.1.2, fun n hn => g2 n (.inr hn)⟩, g1.2⟩
  ·intro q s2 hq
   refine l1 _ _ (.teL_go (by rw [sees_hd2 e1]; rfl) b3 ?_)
   rw [hsum]
   exact hq
 | .sub l r, h => fun s R hs hc => by
  unfold tkT at hs ⊢
  rw [List.append_assoc, List.cons_append] at hs
  obtain ⟨s1, e1, p1, l1⟩ := par_T (sT_le l) (rd_T NS hNS l h.1) 1 (by omega) s _ hs ⟨fun _ => rfl, fun _ => rfl, fun h => absurd h (by omega)⟩
  have e2 : rst T (adv s1) = _ := rst_tail e1 rfl
  obtain ⟨s3, e3, p3, l3⟩ := par_T (sT_le r) (rd_T NS hNS r h.2) 2 (by omega) (adv s1) R e2 (hc.up (by simp [sT]))
  have b3 : Big T (.prod none) (adv s1) (some (.tm (rd r))) s3 := l3 _ _ (.pdL_end (by rw [sees_k, e3]; exact hc.2.1 (Nat.le_refl _)))
  have hsum : sumT (pk T s1) (rd l) (rd r) = .sub (rd l) (rd r) := by unfold sumT; rw [(pk_hd2 e1).2, if_pos rfl]
  refine ⟨meas s3 (pk T s1) (.sub (rd l) (rd r)) [rd l, rd r], rst_same e3 (meas_next _ _ _ _), (p1.trans (Pst.adv.trans (p3.trans (Pst.meas _ _ _ _)))).mono ?_ (by simp only [List.length_append, List.length_cons]; omega) rfl, ?_⟩
  ·rintro ⟨g1, g2⟩
   simp only [rd, gdT, Bool.and_eq_true, Bool.not_eq_true'] at g1
   simp only [rd, namesT, List.mem_append] at g2
   exact ⟨⟨g1.1.1, fun n hn => g2 n (.inl hn)⟩, trivial, ⟨g1.1.2, fun n hn => g2 n (.inr hn)⟩, g1.2⟩
  ·intro q s2 hq
   refine l1 _ _ (.teL_go (by rw [sees_hd2 e1, sees_hd2 e1]; rfl) b3 ?_)
   rw [hsum]
   exact hq
 | .mul l r, h => fun s R hs hc => by
  unfold tkT at hs ⊢
  rw [List.append_assoc, List.cons_append] at hs
  obtain ⟨s1, e1, p1, l1⟩ := par_T (sT_le l) (rd_T NS hNS l h.1) 2 (by omega) s _ hs ⟨fun _ => rfl, fun h => absurd h (by omega), fun h => absurd h (by omega)⟩
  have e2 : rst T (adv s1) = _ := rst_tail e1 rfl
  obtain ⟨s3, e3, p3, l3⟩ := par_T (sT_le r) (rd_T NS hNS r h.2) 3 (by omega) (adv s1) R e2 (hc.up (by simp [sT]))
  refine ⟨meas s3 (pk T s1) (.mul (rd l) (rd r)) [rd l, rd r], rst_same e3 (meas_next _ _ _ _), (p1.trans (Pst.adv.trans (p3.trans (Pst.meas _ _ _ _)))).mono ?_ (by simp only [List.length_append, List.length_cons]; omega) rfl, ?_⟩
  ·rintro ⟨g1, g2⟩
   simp only [rd, gdT, Bool.and_eq_true, Bool.not_eq_true'] at g1
   simp only [rd, namesT, List.mem_append] at g2
   exact ⟨⟨g1.1.1, fun n hn => g2 n (.inl hn)⟩, trivial, ⟨g1.1.2, fun n hn => g2 n (.inr hn)⟩, g1.2⟩
  ·intro q s2 hq
   exact l1 _ _ (.pdL_go (by rw [sees_hd2 e1]; rfl) l3 hq)
 | .neg t, h => fun s R hs hc => by
  unfold tkT at hs ⊢
  rw [List.cons_append] at hs
  obtain ⟨s1, e1, p1, l1⟩ := par_T (sT_le t) (rd_T NS hNS t h) 3 (by omega) (opn T s) R (rst_tail hs (opn_next _ _)) (hc.up (by simp [sT]))
  refine ⟨dn s1, rst_same e1 rfl, (Pst.opn p1).mono ?_ (by simp only [List.length_cons]; omega) rfl, .fa_neg (by rw [sees_hd2 hs]; rfl) l1⟩
  rintro ⟨g1, g2⟩
  exact ⟨g1, g2⟩
 | .pow t e, h => fun s R hs hc => by
  unfold tkT at hs ⊢
  rw [List.append_assoc] at hs
  obtain ⟨s1, e1, p1, l1⟩ := par_T (sT_le t) (rd_T NS hNS t h.1) 5 (by omega) s _ hs ⟨fun h => absurd h (by omega), fun h => absurd h (by omega), fun h => absurd h (by omega)⟩
  have e1' : rst T s1 = (4, cHat) :: (1, numS e.toNat) :: R := e1
  have e2 : rst T (adv s1) = (1, numS e.toNat) :: R := rst_tail e1' rfl
  have e3 : rst T (adv (adv s1)) = R := rst_tail e2 rfl
  obtain ⟨k1, k2⟩ := pk_hd2 e2
  have hx : expN (pk T (adv s1)).text = expN (numS e.toNat) := by rw [k2]
  refine ⟨powS T (rd t) s1, rst_same e3 (powS_next _ _ _), (p1.trans (Pst.pow _ _)).mono ?_ (by simp only [List.length_append]; omega) rfl, ?_⟩
  ·rintro ⟨g1, g2⟩
   simp only [rd, gdT, Bool.and_eq_true, Bool.not_eq_true', decide_eq_true_eq] at g1
   rw [hx]
   exact ⟨⟨g1.1.1, g2⟩, g1.2, by have := g1.1.2; omega⟩
  ·have := Big.po_go l1 (.pT_ok (by rw [sees_hd2 e1']; rfl) k1)
   rw [hx] at this
   exact this
end
end Rd
end Go.Proofs.YteneobpacobpdaaGreatDoor
namespace Go.Proofs.YteneobpacobpdaaGreatDoor
open Go.RowKit
namespace Rd
open Lx Fm Dc Pr Pa
section
variable {T : List Tok}
theorem term_open {s s1 : PS} {x : PV} (h : Big T (.term none) s (some x) s1) (ho : sees T s cOpen = true) :
  ∃ x0 s0, Big T (.term none) (opn T s) (some (.tm x0)) s0 ∧ sees T (dn s0) cShut = true ∧ Big T (.term (some x0)) (adv (dn s0)) (some x) s1 := by
 obtain ⟨hk, ht⟩ := sees_kind ho
 cases h with
 | te_go hp hl => cases hp with
  | pd_go hf hl2 => cases hf with
   | fa_neg hm _ => rw [(sees_kind hm).2] at ht; exact absurd ht (by decide)
   | fa_pow hm hw => cases hw with
    | po_go hq hT => cases hq with
     | pr_num h => omega
     | pr_name h => omega
     | pr_ok _ hin hs => exact ⟨_, _, hin, hs, .te_go (.pd_go (.fa_first (.po_first hT)) hl2) hl⟩
theorem rel_zero {s : PS} (h : sees T s cShut = true) : relOf (pk T s) = 0 := by
 obtain ⟨hk, ht⟩ := sees_kind h
 unfold relOf
 rw [ht]
 split <;> rfl
theorem up_to_iff {b : Bool} {s s1 : PS} {x : PV} (h : Big T (.un b) s (some x) s1) (hs : sees T s1 cShut = true) : Big T (.iff b) s (some x) s1 :=
 .iff_go (.imp_one (.or_go (.and_go h (.andL_end (sees_text hs (by decide)))) (.orL_end (sees_text hs (by decide)))) (sees_text hs (by decide))) (.iffL_end (sees_text hs (by decide)))
theorem un_of_atom {b : Bool} {s s1 : PS} {r : Option PV} {x : PV} {s2 : PS} (h : Big T (.term none) s (some x) s2) (ha : Big T (.atom b) s r s1) : Big T (.un b) s r s1 :=
 .un_atom (term_no h (by decide) (by decide)) (term_no h (by decide) (by decide)) (term_no h (by decide) (by decide)) (term_no h (by decide) (by decide)) (term_no h (by decide) (by decide)) ha
theorem term_iff : ∀ (n : Nat) (s : PS) (x : Tm) (s1 : PS), T.length - s.next ≤ n → Big T (.term none) s (some (.tm x)) s1 → sees T s1 cShut = true → Big T (.iff true) s (some (.tm x)) s1
 | n, s, x, s1, hn, h, hs => by
  refine up_to_iff (un_of_atom h ?_) hs
  by_cases ho : sees T s cOpen = true
  ·obtain ⟨x0, s0, hin, hc, ht⟩ := term_open h ho
   have hlt := sees_lt ho
   have hb : Big T (.iff true) (opn T s) (some (.tm x0)) s0 := by
    match n, hn with
    | 0, hn => omega
    | n + 1, hn => exact term_iff n (opn T s) x0 s0 (by rw [opn_next]; omega) hin hc
   exact .at_par ho (.en_ok hb hc) (.atT_bare ht (rel_zero hs) (by rw [hs]; rfl))
  ·exact .at_go (by simpa using ho) (.atT_bare h (rel_zero hs) (by rw [hs]; rfl))
theorem atom_un {s s1 s2 : PS} {l m : Tm} (h : Big T (.term none) s (some (.tm l)) s1) (hr : relOf (pk T s1) ≠ 0) (h2 : Big T (.term none) (Pa.relS T s1) (some (.tm m)) s2) (b : Bool) :
  Big T (.un b) s (some (.fo (.atom l (relOf (pk T s1)) m))) s2 := by
 refine un_of_atom h ?_
 by_cases ho : sees T s cOpen = true
 ·obtain ⟨x0, s0, hin, hc, ht⟩ := term_open h ho
  exact .at_par ho (.en_ok (term_iff _ _ _ _ (Nat.le_refl _) hin hc) hc) (.atT_ok ht hr h2)
 ·exact .at_go (by simpa using ho) (.atT_ok h hr h2)
end
def sF : Fo → Nat
 | .quant _ _ _ => 0
 | .iff _ _ => 1
 | .implies _ _ => 2
 | .or _ _ => 3
 | .and _ _ => 4
 | .not _ => 5
 | _ => 6
theorem strF_s (f : Fo) : strF f = (sF f : Int) := by cases f <;> rfl
theorem dec_f (t : Fo) (k : Nat) : decide (strF t < (k : Int)) = decide (sF t < k) := by rw [strF_s]; by_cases h : sF t < k <;> simp [h] <;> omega
def tkF : Fo → List Tk
 | .odd => []
 | .truth b => [(3, if b then wTrue else wFalse)]
 | .atom l e r => parK (decide (sT l < 1)) (tkT l) ++ (4, Pr.relS e) :: parK (decide (sT r < 1)) (tkT r)
 | .not f => (3, wNot) :: parK (decide (sF f < 5)) (tkF f)
 | .and l r => parK (decide (sF l < 4)) (tkF l) ++ (3, wAnd) :: parK (decide (sF r < 5)) (tkF r)
 | .or l r => parK (decide (sF l < 3)) (tkF l) ++ (3, wOr) :: parK (decide (sF r < 4)) (tkF r)
 | .implies l r => parK (decide (sF l < 3)) (tkF l) ++ (3, wImplies) :: parK (decide (sF r < 2)) (tkF r)
 | .iff l r => parK (decide (sF l < 1)) (tkF l) ++ (3, wIff) :: parK (decide (sF r < 2)) (tkF r)
 | .quant a n f => (3, if a then wForall else wExists) :: (2, n.data.toList) :: (4, cDot) :: parK (decide (sF f < 0)) (tkF f)
def okF : Fo → Prop
 | .odd => False
 | .truth _ => True
 | .atom l e r => okR l ∧ (1 ≤ e ∧ e ≤ 6) ∧ okR r
 | .not f => okF f
 | .and l r => okF l ∧ okF r
 | .or l r => okF l ∧ okF r
 | .implies l r => okF l ∧ okF r
 | .iff l r => okF l ∧ okF r
 | .quant _ n f => Nm n.data.toList ∧ okF f
def dgF : Fo → Bool
 | .atom l _ r => dgR l && dgR r
 | .not f => dgF f
 | .and l r => dgF l && dgF r
 | .or l r => dgF l && dgF r
 | .implies l r => dgF l && dgF r
 | .iff l r => dgF l && dgF r
 | .quant _ _ f => dgF f
 | _ => true
def rdF : Fo → Fo
 | .odd => .odd
 | .truth b => .truth b
 | .atom l e r => .atom (rd l) e (rd r)
 | .not f => .not (rdF f)
 | .and l r => .and (rdF l) (rdF r)
 | .or l r => .or (rdF l) (rdF r)
 | .implies l r => .implies (rdF l) (rdF r)
 | .iff l r => .iff (rdF l) (rdF r)
 | .quant a n f => .quant a n (rdF f)
theorem next_rel (e : Int) (he : 1 ≤ e ∧ e ≤ 6) (b : Bytes) : ∃ c r, Pr.relS e ++ 32 :: b = c :: r ∧ bl c = false ∧ next (c :: r) = (4, (Pr.relS e).length, 0) := by
 rcases (by omega : e = 1 ∨ e = 2 ∨ e = 3 ∨ e = 4 ∨ e = 5 ∨ e = 6) with rfl | rfl | rfl | rfl | rfl | rfl
 all_goals exact ⟨_, _, rfl, by decide, by cases b <;> rfl⟩
theorem Sy.rel {e : Int} (he : 1 ≤ e ∧ e ≤ 6) {b : Bytes} {M : List Tk} {y : Bool} (hb : Sy b M y) : Sy (32 :: (Pr.relS e ++ 32 :: b)) ((4, Pr.relS e) :: M) y := by
 obtain ⟨c, r, h1, h2, h3⟩ := next_rel e he b
 refine Sy.blank (by decide) ?_
 rw [h1]
 exact Sy.tok (rest := 32 :: b) h2 h1.symm h3 (Sy.blank (by decide) hb)
theorem sy_bin {A B w : Bytes} {K K2 : List Tk} {x y : Bool} (hw : Wd w) (ha : Sy A K x) (hb : Sy B K2 y) : Sy (A ++ 32 :: (w ++ 32 :: B)) (K ++ (3, w) :: K2) (x && y) :=
 Sy.app (by decide) ha (Sy.blank (by decide) (Sy.word hw rfl (Sy.blank (by decide) hb)))
theorem wd_iff : Wd wIff := wd_op 3
theorem wd_implies : Wd wImplies := wd_op 2
theorem wd_or : Wd wOr := wd_op 1
theorem wd_and : Wd wAnd := wd_op 0
theorem wd_false : Wd wFalse := ⟨by decide, by decide, by decide, _, _, rfl, by decide, by decide, by decide⟩
theorem sy_F : ∀ f : Fo, okF f → Sy (txtF f) (tkF f) (dgF f)
 | .odd, h => h.elim
 | .truth true, _ => by
  have := Sy.word (rest := []) wd_true rfl Sy.nil
  rw [List.append_nil] at this
  exact this
 | .truth false, _ => by
  have := Sy.word (rest := []) wd_false rfl Sy.nil
  rw [List.append_nil] at this
  exact this
 | .atom l e r, h => by
  have h1 := sy_par (decide (sT l < 1)) (sy_T l h.1)
  have h2 := sy_par (decide (sT r < 1)) (sy_T r h.2.2)
  have := Sy.app (c := 32) (by decide) h1 (Sy.rel h.2.1 h2)
  have e1 := dec_s l 1
  have e2 := dec_s r 1
  unfold txtF tkF dgF inT
  rw [show (1 : Int) = ((1 : Nat) : Int) from rfl, e1, e2]
  refine cast (congrArg (fun z => Sy z _ _) ?_) this
  simp
 | .not f, h => by
  have := Sy.word wd_not rfl (Sy.blank (c := 32) (by decide) (sy_par (decide (sF f < 5)) (sy_F f h)))
  have e1 := dec_f f 5
  unfold txtF tkF dgF
  rw [show (5 : Int) = ((5 : Nat) : Int) from rfl, e1]
  exact this
 | .and l r, h => by
  have := sy_bin wd_and (sy_par (decide (sF l < 4)) (sy_F l h.1)) (sy_par (decide (sF r < 5)) (sy_F r h.2))
  have e1 := dec_f l 4
  have e2 := dec_f r 5
  unfold txtF tkF dgF
  rw [show (4 : Int) = ((4 : Nat) : Int) from rfl, show (5 : Int) = ((5 : Nat) : Int) from rfl, e1, e2, cons_app]
  exact this
 | .or l r, h => by
  have := sy_bin wd_or (sy_par (decide (sF l < 3)) (sy_F l h.1)) (sy_par (decide (sF r < 4)) (sy_F r h.2))
  have e1 := dec_f l 3
  have e2 := dec_f r 4
  unfold txtF tkF dgF
  rw [show (4 : Int) = ((4 : Nat) : Int) from rfl, show (3 : Int) = ((3 : Nat) : Int) from rfl, e1, e2, cons_app]
  exact this
 | .implies l r, h => by
  have := sy_bin wd_implies (sy_par (decide (sF l < 3)) (sy_F l h.1)) (sy_par (decide (sF r < 2)) (sy_F r h.2))
  have e1 := dec_f l 3
  have e2 := dec_f r 2
  unfold txtF tkF dgF
  rw [show (2 : Int) = ((2 : Nat) : Int) from rfl, show (3 : Int) = ((3 : Nat) : Int) from rfl, e1, e2, cons_app]
  exact this
 | .iff l r, h => by
  have := sy_bin wd_iff (sy_par (decide (sF l < 1)) (sy_F l h.1)) (sy_par (decide (sF r < 2)) (sy_F r h.2))
  have e1 := dec_f l 1
  have e2 := dec_f r 2
  unfold txtF tkF dgF
  rw [show (2 : Int) = ((2 : Nat) : Int) from rfl, show (1 : Int) = ((1 : Nat) : Int) from rfl, e1, e2, cons_app]
  exact this
 | .quant a n f, h => by
  have h1 := Sy.app (c := 46) (by decide) (Sy.name h.1) (Sy.sign (c := 46) (by decide) (Sy.blank (c := 32) (by decide) (sy_par (decide (sF f < 0)) (sy_F f h.2))))
  have e1 := dec_f f 0
  rw [Bool.true_and] at h1
  have hw : Wd (if a then wForall else wExists) := by cases a; exact wd_exists; exact wd_forall
  have := Sy.word hw rfl (Sy.blank (c := 32) (by decide) h1)
  unfold txtF tkF dgF
  rw [show (0 : Int) = ((0 : Nat) : Int) from rfl, e1]
  refine cast (congrArg (fun z => Sy z _ _) ?_) this
  cases a <;> simp [wForall, wExists]
section
variable {T : List Tok}
def LRf (T : List Tok) (k : Nat) (x : Fo) (s s1 : PS) : Prop := match k with
 | 0 => ∀ b, Big T (.iff b) s (some (.fo x)) s1
 | 1 => ∀ b r s2, Big T (.iffL (.fo x)) s1 r s2 → Big T (.iff b) s r s2
 | 2 => ∀ b, Big T (.imp b) s (some (.fo x)) s1
 | 3 => ∀ b r s2, Big T (.orL (.fo x)) s1 r s2 → Big T (.or b) s r s2
 | 4 => ∀ b r s2, Big T (.andL (.fo x)) s1 r s2 → Big T (.and b) s r s2
 | _ => ∀ b, Big T (.un b) s (some (.fo x)) s1
def Cf (k : Nat) (R : List Tk) : Prop := Ct 0 R ∧ (k ≤ 3 → seesK (R.headD (0, [])) wAnd = false) ∧ (k ≤ 2 → seesK (R.headD (0, [])) wOr = false ∧ seesK (R.headD (0, [])) wImplies = false) ∧ (k = 0 → seesK (R.headD (0, [])) wIff = false)
theorem Cf.up {k j : Nat} {R : List Tk} (h : Cf k R) (hj : k ≤ j) : Cf j R := ⟨h.1, fun e => h.2.1 (by omega), fun e => h.2.2.1 (by omega), fun e => h.2.2.2 (by omega)⟩
theorem cf_shut (k : Nat) (R : List Tk) : Cf k ((4, cShut) :: R) := ⟨ct_shut _ _, fun _ => rfl, fun _ => ⟨rfl, rfl⟩, fun _ => rfl⟩
theorem cf_nil (k : Nat) : Cf k [] := ⟨ct_nil _, fun _ => rfl, fun _ => ⟨rfl, rfl⟩, fun _ => rfl⟩
theorem LRf.low {k : Nat} {x : Fo} {s s1 : PS} (hk : k ≤ 4) (h : LRf T (k + 1) x s s1) (hc : Cf k (rst T s1)) : LRf T k x s s1 := by
 match k, hk with
 | 0, _ => exact fun b => h b _ _ (.iffL_end (by rw [sees_k]; exact hc.2.2.2 rfl))
 | 1, _ => exact fun b r s2 hr => .iff_go (h b) hr
 | 2, _ => exact fun b => .imp_one (h b _ _ (.orL_end (by rw [sees_k]; exact (hc.2.2.1 (by omega)).1))) (by rw [sees_k]; exact (hc.2.2.1 (by omega)).2)
 | 3, _ => exact fun b r s2 hr => .or_go (h b _ _ (.andL_end (by rw [sees_k]; exact hc.2.1 (by omega)))) hr
 | 4, _ => exact fun b r s2 hr => .and_go (h b) hr
theorem LRf.to {x : Fo} {s s1 : PS} {k : Nat} (hc : Cf k (rst T s1)) : ∀ n, k + n ≤ 5 → LRf T (k + n) x s s1 → LRf T k x s s1
 | 0, _, h => h
 | n + 1, hn, h => LRf.to hc n (by omega) (LRf.low (by omega) h (hc.up (by omega)))
theorem par_F {NS : List ByteArray} {G : Prop} {r : Nat} {L : List Tk} {j : Nat} {x : Fo} (hj : j ≤ 6)
  (hP : ∀ (s : PS) (R : List Tk), rst T s = L ++ R → Cf j R → ∃ s1, rst T s1 = R ∧ Pst G NS L.length r s s1 ∧ LRf T j x s s1)
  (k : Nat) (hk : k ≤ 5) (s : PS) (R : List Tk) (hs : rst T s = parK (decide (j < k)) L ++ R) (hc : Cf k R) :
  ∃ s1, rst T s1 = R ∧ Pst G NS (parK (decide (j < k)) L).length r s s1 ∧ LRf T k x s s1 := by
 have six : ∀ {a b}, LRf T 6 x a b → LRf T 5 x a b := fun h => h
 by_cases h : j < k
 ·rw [decide_eq_true h] at hs ⊢
  have hs' : rst T s = (4, cOpen) :: (L ++ (4, cShut) :: R) := by rw [hs]; simp [parK]
  obtain ⟨s1, e1, p1, l1⟩ := hP (opn T s) ((4, cShut) :: R) (rst_tail hs' (opn_next _ _)) (cf_shut _ _)
  have l0 : LRf T 0 x (opn T s) s1 := LRf.to (by rw [e1]; exact cf_shut _ _) j (by omega) (by rw [Nat.zero_add]; exact l1)
  have e2 : rst T (dn s1) = (4, cShut) :: R := rst_same e1 rfl
  have b5 : LRf T 5 x s (adv (dn s1)) := fun b => .un_atom (by rw [sees_hd2 hs']; rfl) (by rw [sees_hd2 hs']; rfl) (by rw [sees_hd2 hs']; rfl) (by rw [sees_hd2 hs']; rfl) (by rw [sees_hd2 hs']; rfl) (.at_fo (by rw [sees_hd2 hs']; rfl) (.en_ok (l0 true) (by rw [sees_hd2 e2]; rfl)))
  have e3 : rst T (adv (dn s1)) = R := rst_tail e2 rfl
  refine ⟨adv (dn s1), e3, ((Pst.opn p1).trans Pst.adv).mono (fun g => ⟨g, trivial⟩) (by simp [parK]) rfl, LRf.to (by rw [e3]; exact hc) (5 - k) (by omega) (by rw [show k + (5 - k) = 5 by omega]; exact b5)⟩
 ·rw [decide_eq_false h] at hs ⊢
  obtain ⟨s1, e1, p1, l1⟩ := hP s R hs (hc.up (by omega))
  refine ⟨s1, e1, p1, ?_⟩
  by_cases h6 : j = 6
  ·subst h6
   exact LRf.to (by rw [e1]; exact hc) (5 - k) (by omega) (by rw [show k + (5 - k) = 5 by omega]; exact six l1)
  ·exact LRf.to (by rw [e1]; exact hc) (j - k) (by omega) (by rw [show k + (j - k) = j by omega]; exact l1)
def GF (NS : List ByteArray) (f : Fo) : Prop := gdF f = true ∧ ∀ n ∈ mF f, n ∈ NS
theorem sF_le (f : Fo) : sF f ≤ 6 := by cases f <;> simp [sF]
theorem rel_of (e : Int) (he : 1 ≤ e ∧ e ≤ 6) {s : PS} (h : kt (pk T s) = (4, Pr.relS e)) : relOf (pk T s) = e := by
 have h1 : (pk T s).kind = 4 := congrArg Prod.fst h
 have h2 : (pk T s).text = Pr.relS e := congrArg Prod.snd h
 unfold relOf
 rw [h1, h2, if_pos rfl]
 rcases (by omega : e = 1 ∨ e = 2 ∨ e = 3 ∨ e = 4 ∨ e = 5 ∨ e = 6) with rfl | rfl | rfl | rfl | rfl | rfl <;> decide
theorem rd_F (NS : List ByteArray) (hNS : NS.length ≤ 4) : ∀ (f : Fo), okF f → ∀ (s : PS) (R : List Tk), rst T s = tkF f ++ R → Cf (sF f) R →
  ∃ s1, rst T s1 = R ∧ Pst (GF NS (rdF f)) NS (tkF f).length (atomsF f) s s1 ∧ LRf T (sF f) (rdF f) s s1
 | .odd, h => h.elim
 | .truth true, _ => fun s R hs _ => by
  have hs' : rst T s = (3, wTrue) :: R := hs
  exact ⟨adv s, rst_tail hs' rfl, Pst.adv.mono (fun _ => trivial) (Nat.zero_le _) rfl, fun b => .un_true (by rw [sees_hd2 hs']; rfl) (by rw [sees_hd2 hs']; rfl) (by rw [sees_hd2 hs']; rfl) (by rw [sees_hd2 hs']; rfl)⟩
 | .truth false, _ => fun s R hs _ => by
  have hs' : rst T s = (3, wFalse) :: R := hs
  exact ⟨adv s, rst_tail hs' rfl, Pst.adv.mono (fun _ => trivial) (Nat.zero_le _) rfl, fun b => .un_false (by rw [sees_hd2 hs']; rfl) (by rw [sees_hd2 hs']; rfl) (by rw [sees_hd2 hs']; rfl) (by rw [sees_hd2 hs']; rfl) (by rw [sees_hd2 hs']; rfl)⟩
 | .atom l e r, h => fun s R hs hc => by
  unfold tkF at hs ⊢
  rw [List.append_assoc, List.cons_append] at hs
  have hrel : ∀ x : Bytes, x.head? ≠ (Pr.relS e).head? → seesK (4, Pr.relS e) x = false := fun x hx => by
   unfold seesK
   rw [show ((4, Pr.relS e).2 == x) = false from by
    rw [beq_eq_false_iff_ne]
    rintro rfl
    exact hx rfl]
   simp
  have hh : (Pr.relS e).head? = some 60 ∨ (Pr.relS e).head? = some 61 ∨ (Pr.relS e).head? = some 62 := by
   unfold Pr.relS
   split; exact .inl rfl
   split; exact .inl rfl
   split; exact .inl rfl
   split; exact .inr (.inr rfl)
   split; exact .inr (.inr rfl)
   exact .inr (.inl rfl)
  have hno : ∀ x : Bytes, x = cHat ∨ x = cStar ∨ x = cPlus ∨ x = cMinus → seesK (4, Pr.relS e) x = false := fun x hx => hrel x (by
   rcases hx with rfl | rfl | rfl | rfl <;> rcases hh with h | h | h <;> rw [h] <;> decide)
  obtain ⟨s1, e1, p1, l1⟩ := par_T (sT_le l) (rd_T NS hNS l h.1) 1 (by omega) s _ hs ⟨fun _ => hno _ (.inl rfl), fun _ => hno _ (.inr (.inl rfl)), fun h => absurd h (by omega)⟩
  have b1 : Big T (.term none) s (some (.tm (rd l))) s1 := l1 _ _ (.teL_end (by
   rw [sees_hd2 e1, sees_hd2 e1, hno _ (.inr (.inr (.inl rfl))), hno _ (.inr (.inr (.inr rfl)))]
   rfl))
  have hr : relOf (pk T s1) = e := rel_of e h.2.1 (by obtain ⟨k1, k2⟩ := pk_hd2 e1; exact Prod.ext k1 k2)
  have e2 : rst T (Pa.relS T s1) = _ := rst_tail e1 (relS_next _ _)
  obtain ⟨s3, e3, p3, l3⟩ := par_T (sT_le r) (rd_T NS hNS r h.2.2) 1 (by omega) (Pa.relS T s1) R e2 (hc.1.up (by omega))
  have b3 : Big T (.term none) (Pa.relS T s1) (some (.tm (rd r))) s3 := l3 _ _ (.teL_end (by rw [sees_k, sees_k, e3]; exact hc.1.2.2 rfl))
  refine ⟨s3, e3, (p1.trans (Pst.rel.trans p3)).mono ?_ (by simp only [List.length_append, List.length_cons]; omega) rfl, fun b => ?_⟩
  ·rintro ⟨g1, g2⟩
   simp only [rdF, gdF, Bool.and_eq_true] at g1
   simp only [rdF, mF, List.mem_append] at g2
   exact ⟨⟨g1.1, fun n hn => g2 n (.inl hn)⟩, trivial, ⟨g1.2, fun n hn => g2 n (.inr hn)⟩⟩
  ·have := atom_un b1 (by rw [hr]; have := h.2.1; omega) b3 b
   rw [hr] at this
   exact this
 | .not f, h => fun s R hs hc => by
  unfold tkF at hs ⊢
  rw [List.cons_append] at hs
  obtain ⟨s1, e1, p1, l1⟩ := par_F (sF_le f) (rd_F NS hNS f h) 5 (by omega) (opn T s) R (rst_tail hs (opn_next _ _)) hc
  exact ⟨dn s1, rst_same e1 rfl, (Pst.opn p1).mono (fun g => g) (by simp only [List.length_cons]; omega) rfl, fun b => .un_not (by rw [sees_hd2 hs]; rfl) (l1 false)⟩
 | .and l r, h => fun s R hs hc => by
  unfold tkF at hs ⊢
  rw [List.append_assoc, List.cons_append] at hs
  obtain ⟨s1, e1, p1, l1⟩ := par_F (sF_le l) (rd_F NS hNS l h.1) 4 (by omega) s _ hs ⟨⟨fun _ => rfl, fun _ => rfl, fun _ => rfl⟩, fun h => absurd h (by omega), fun h => absurd h (by omega), fun h => absurd h (by omega)⟩
  have e2 : rst T (adv s1) = _ := rst_tail e1 rfl
  obtain ⟨s3, e3, p3, l3⟩ := par_F (sF_le r) (rd_F NS hNS r h.2) 5 (by omega) (adv s1) R e2 (hc.up (by simp [sF]))
  refine ⟨s3, e3, (p1.trans (Pst.adv.trans p3)).mono ?_ (by simp only [List.length_append, List.length_cons]; omega) (by show atomsF l + (0 + atomsF r) = atomsF l + atomsF r; omega), ?_⟩
  ·rintro ⟨g1, g2⟩
   simp only [rdF, gdF, Bool.and_eq_true] at g1
   simp only [rdF, mF, List.mem_append] at g2
   exact ⟨⟨g1.1, fun n hn => g2 n (.inl hn)⟩, trivial, ⟨g1.2, fun n hn => g2 n (.inr hn)⟩⟩
  ·intro b q s2 hq
   exact l1 b _ _ (.andL_go (by rw [sees_hd2 e1]; rfl) (l3 false) hq)
 | .or l r, h => fun s R hs hc => by
  unfold tkF at hs ⊢
  rw [List.append_assoc, List.cons_append] at hs
  obtain ⟨s1, e1, p1, l1⟩ := par_F (sF_le l) (rd_F NS hNS l h.1) 3 (by omega) s _ hs ⟨⟨fun _ => rfl, fun _ => rfl, fun _ => rfl⟩, fun _ => rfl, fun h => absurd h (by omega), fun h => absurd h (by omega)⟩
  have e2 : rst T (adv s1) = _ := rst_tail e1 rfl
  obtain ⟨s3, e3, p3, l3⟩ := par_F (sF_le r) (rd_F NS hNS r h.2) 4 (by omega) (adv s1) R e2 (hc.up (by simp [sF]))
  have b3 : Big T (.and false) (adv s1) (some (.fo (rdF r))) s3 := l3 false _ _ (.andL_end (by rw [sees_k, e3]; exact hc.2.1 (Nat.le_refl _)))
  refine ⟨s3, e3, (p1.trans (Pst.adv.trans p3)).mono ?_ (by simp only [List.length_append, List.length_cons]; omega) (by show atomsF l + (0 + atomsF r) = atomsF l + atomsF r; omega), ?_⟩
  ·rintro ⟨g1, g2⟩
   simp only [rdF, gdF, Bool.and_eq_true] at g1
   simp only [rdF, mF, List.mem_append] at g2
   exact ⟨⟨g1.1, fun n hn => g2 n (.inl hn)⟩, trivial, ⟨g1.2, fun n hn => g2 n (.inr hn)⟩⟩
  ·intro b q s2 hq
   exact l1 b _ _ (.orL_go (by rw [sees_hd2 e1]; rfl) b3 hq)
 | .implies l r, h => fun s R hs hc => by
  unfold tkF at hs ⊢
  rw [List.append_assoc, List.cons_append] at hs
  obtain ⟨s1, e1, p1, l1⟩ := par_F (sF_le l) (rd_F NS hNS l h.1) 3 (by omega) s _ hs ⟨⟨fun _ => rfl, fun _ => rfl, fun _ => rfl⟩, fun _ => rfl, fun h => absurd h (by omega), fun h => absurd h (by omega)⟩
  have e2 : rst T (adv s1) = _ := rst_tail e1 rfl
  obtain ⟨s3, e3, p3, l3⟩ := par_F (sF_le r) (rd_F NS hNS r h.2) 2 (by omega) (adv s1) R e2 hc
  refine ⟨s3, e3, (p1.trans (Pst.adv.trans p3)).mono ?_ (by simp only [List.length_append, List.length_cons]; omega) (by show atomsF l + (0 + atomsF r) = atomsF l + atomsF r; omega), ?_⟩
  ·rintro ⟨g1, g2⟩
   simp only [rdF, gdF, Bool.and_eq_true] at g1
   simp only [rdF, mF, List.mem_append] at g2
   exact ⟨⟨g1.1, fun n hn => g2 n (.inl hn)⟩, trivial, ⟨g1.2, fun n hn => g2 n (.inr hn)⟩⟩
  ·intro b
   exact .imp_two (l1 b _ _ (.orL_end (by rw [sees_hd2 e1]; rfl))) (by rw [sees_hd2 e1]; rfl) (l3 false)
 | .iff l r, h => fun s R hs hc => by
  unfold tkF at hs ⊢
  rw [List.append_assoc, List.cons_append] at hs
  obtain ⟨s1, e1, p1, l1⟩ := par_F (sF_le l) (rd_F NS hNS l h.1) 1 (by omega) s _ hs ⟨⟨fun _ => rfl, fun _ => rfl, fun _ => rfl⟩, fun _ => rfl, fun _ => ⟨rfl, rfl⟩, fun h => absurd h (by omega)⟩
  have e2 : rst T (adv s1) = _ := rst_tail e1 rfl
  obtain ⟨s3, e3, p3, l3⟩ := par_F (sF_le r) (rd_F NS hNS r h.2) 2 (by omega) (adv s1) R e2 (hc.up (by simp [sF]))
  refine ⟨s3, e3, (p1.trans (Pst.adv.trans p3)).mono ?_ (by simp only [List.length_append, List.length_cons]; omega) (by show atomsF l + (0 + atomsF r) = atomsF l + atomsF r; omega), ?_⟩
  ·rintro ⟨g1, g2⟩
   simp only [rdF, gdF, Bool.and_eq_true] at g1
   simp only [rdF, mF, List.mem_append] at g2
   exact ⟨⟨g1.1, fun n hn => g2 n (.inl hn)⟩, trivial, ⟨g1.2, fun n hn => g2 n (.inr hn)⟩⟩
  ·intro b q s2 hq
   exact l1 b _ _ (.iffL_go (by rw [sees_hd2 e1]; rfl) (l3 false) hq)
 | .quant a n f, h => fun s R hs hc => by
  unfold tkF at hs ⊢
  rw [List.cons_append, List.cons_append, List.cons_append] at hs
  have e1 : rst T (adv s) = _ := rst_tail hs rfl
  have e2 : rst T (nam T (inc T (adv s))) = _ := rst_tail e1 (by rw [nam_next, inc_next])
  have e3 : rst T (adv (nam T (inc T (adv s)))) = _ := rst_tail e2 rfl
  obtain ⟨s1, e4, p1, l1⟩ := par_F (sF_le f) (rd_F NS hNS f h.2) 0 (by omega) _ R e3 hc
  obtain ⟨k1, k2⟩ := pk_hd2 e1
  have ep : pk T (inc T (adv s)) = pk T (adv s) := pk_inc2 _ _
  have hq := Big.qu_dot (T := T) (a := a) k1 (by rw [sees_hd2 e2]; rfl) (by rw [sees_hd2 e2]; rfl) (l1 false)
  rw [k2, bs_of] at hq
  have hn : Pst (bs (pk T (inc T (adv s))).text ∈ NS) NS 0 0 (inc T (adv s)) (nam T (inc T (adv s))) := Pst.name hNS
  refine ⟨dn s1, rst_same e4 rfl, (Pst.adv.trans (Pst.inc (hn.trans (Pst.adv.trans p1)))).mono ?_ (by simp only [List.length_cons]; omega) (by show 0 + (0 + (0 + atomsF f)) = atomsF f; omega), ?_⟩
  ·rintro ⟨g1, g2⟩
   simp only [rdF, gdF] at g1
   simp only [rdF, mF, List.mem_cons] at g2
   refine ⟨trivial, ?_, trivial, g1, fun n hn => g2 n (.inr hn)⟩
   rw [ep, k2, bs_of]
   exact g2 n (.inl rfl)
  ·refine LRf.to (k := 0) (by rw [rst_same (s1 := dn s1) e4 rfl]; exact hc) 5 (by omega) ?_
   intro b
   cases a with
   | true => exact .un_all (by rw [sees_hd2 hs]; rfl) (by rw [sees_hd2 hs]; rfl) hq
   | false => exact .un_ex (by rw [sees_hd2 hs]; rfl) (by rw [sees_hd2 hs]; rfl) (by rw [sees_hd2 hs]; rfl) hq
end
theorem lex_bad {s : Bytes} (hl : s.length ≤ 4000) (h : (lexBl 0 s).2.2 = 8) : lex s = ([], (lexBl 0 s).2.1, 8) := by
 rw [lex_small _ hl, if_neg (by omega), h]
theorem gives_F (f : Fo) (h : okF f) : Gives (txtF f) (rdF f) := by
 by_cases hl : (txtF f).length ≤ 4000
 ·have hy := sy_F f h
  by_cases hd : dgF f = true
  ·rw [hd] at hy
   refine gives_of hy.says hl fun T hT => ?_
   obtain ⟨s1, e1, -, l1⟩ := rd_F (T := T) [] (by decide) f h s0 [] (by rw [rst_s0, hT, List.append_nil]) (cf_nil _)
   by_cases h6 : sF f = 6
   ·rw [h6] at l1
    have l5 : LRf T 5 (rdF f) s0 s1 := l1
    exact ⟨s1, LRf.to (k := 0) (by rw [e1]; exact cf_nil _) 5 (by omega) l5 false, e1⟩
   ·exact ⟨s1, LRf.to (k := 0) (by rw [e1]; exact cf_nil _) (sF f) (by have := sF_le f; omega) (by rw [Nat.zero_add]; exact l1) false, e1⟩
  ·rw [show dgF f = false by simpa using hd] at hy
   refine .inr ⟨(lexBl 0 (txtF f)).2.1, ?_⟩
   unfold ParseR
   have h8 := hy.lim 0
   rw [lex_bad hl h8, if_pos (show (8 : Nat) ≠ 0 by decide)]
   exact ⟨rfl, rfl, rfl⟩
 ·refine .inr ⟨4000, ?_⟩
  unfold ParseR
  rw [lex_long _ (by omega), if_pos (by decide)]
  exact ⟨rfl, rfl, rfl⟩
end Rd
end Go.Proofs.YteneobpacobpdaaGreatDoor
