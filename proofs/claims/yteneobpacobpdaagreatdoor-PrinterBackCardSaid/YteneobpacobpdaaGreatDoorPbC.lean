/-
  A parse that succeeds goes on doing so among other tokens: parentheses behind, other counters; and where a term is borne in parentheses too.
-/
import Derived.Test.YteneobpacobpdaaGreatDoorPaH
import Derived.Test.YteneobpacobpdaaGreatDoorPaX
import Derived.Test.YteneobpacobpdaaGreatDoorPaE
set_option linter.unusedSimpArgs false
set_option linter.unusedVariables false
namespace Go.Proofs.YteneobpacobpdaaGreatDoor
open Go.RowKit
namespace Pa
open Lx Fm Dc
abbrev rst (T : List Tok) (s : PS) : List (Nat × Bytes) := (T.drop s.next).map kt
theorem kt_pk (T : List Tok) (s : PS) : kt (pk T s) = (rst T s).headD (0, []) := by
 have e : (T.drop s.next).head? = T[s.next]? := List.head?_drop
 unfold pk rst
 rw [← e]
 cases T.drop s.next <;> rfl
theorem rst_next {T : List Tok} {s s1 : PS} (h : s1.next = s.next + 1) : rst T s1 = (rst T s).tail := by
 unfold rst
 rw [h, ← List.map_tail, List.tail_drop]
def seesK (k : Nat × Bytes) (x : Bytes) : Bool := (decide (k.1 = 3) || decide (k.1 = 4)) && (k.2 == x)
theorem sees_k (T : List Tok) (s : PS) (x : Bytes) : sees T s x = seesK ((rst T s).headD (0, [])) x := by rw [← kt_pk]; rfl
def EndR (R : List (Nat × Bytes)) : Prop := R = [] ∨ ∃ R', R = (4, cShut) :: R'
section
variable {T T' : List Tok} {R : List (Nat × Bytes)}
def Sim (T T' : List Tok) (R : List (Nat × Bytes)) (s t : PS) : Prop := rst T' t = rst T s ++ R
theorem Sim.same {s t s1 t1 : PS} (h : Sim T T' R s t) (e1 : s1.next = s.next) (e2 : t1.next = t.next) : Sim T T' R s1 t1 := by
 unfold Sim rst at *; rw [e1, e2]; exact h
theorem Sim.step {s t s1 t1 : PS} (h : Sim T T' R s t) (hn : rst T s ≠ []) (e1 : s1.next = s.next + 1) (e2 : t1.next = t.next + 1) : Sim T T' R s1 t1 := by
 unfold Sim at *
 rw [rst_next e1, rst_next e2, h]
 cases hL : rst T s with
 | nil => exact absurd hL hn
 | cons a l => rfl
theorem Sim.sees {s t : PS} (h : Sim T T' R s t) (hR : EndR R) {x : Bytes} (hx : (cShut == x) = false) : sees T' t x = sees T s x := by
 rw [sees_k, sees_k, h]
 cases hL : rst T s with
 | nil =>
  rcases hR with rfl | ⟨R', rfl⟩
  ·rfl
  ·show seesK (4, cShut) x = seesK (0, []) x
   unfold seesK
   rw [hx]; rfl
 | cons a l => rfl
theorem Sim.kind {s t : PS} (h : Sim T T' R s t) (hk : (pk T s).kind ≠ 0) : kt (pk T' t) = kt (pk T s) ∧ rst T s ≠ [] := by
 rw [kt_pk, kt_pk, h]
 have hk : (kt (pk T s)).1 ≠ 0 := hk
 rw [kt_pk] at hk
 cases hL : rst T s with
 | nil => rw [hL] at hk; exact absurd rfl hk
 | cons a l => exact ⟨rfl, by simp⟩
theorem relOf_kt {a b : Tok} (h : kt a = kt b) : relOf a = relOf b := by
 injection h with h1 h2
 unfold relOf; rw [h1, h2]
theorem Sim.rel {s t : PS} (h : Sim T T' R s t) (hR : EndR R) : relOf (pk T' t) = relOf (pk T s) := by
 by_cases hk : (pk T s).kind = 0
 ·have e0 : relOf (pk T s) = 0 := by unfold relOf; rw [hk]; rfl
  rw [e0]
  cases hL : rst T s with
  | nil =>
   have e := kt_pk T' t
   rw [h, hL] at e
   rcases hR with rfl | ⟨R', rfl⟩
   ·injection e with e1 e2; unfold relOf; rw [e1]; rfl
   ·injection e with e1 e2; unfold relOf; rw [e1, e2]; rfl
  | cons a l =>
   have e := kt_pk T' t
   have e2 := kt_pk T s
   rw [h, hL] at e
   rw [hL] at e2
   rw [relOf_kt (e.trans e2.symm), e0]
 ·exact relOf_kt (h.kind hk).1
end
end Pa
end Go.Proofs.YteneobpacobpdaaGreatDoor
namespace Go.Proofs.YteneobpacobpdaaGreatDoor
open Go.RowKit
namespace Pa
open Lx Fm Dc
def stp (c : UInt8) : Bool := !aln c && !(c.toNat == 61 || c.toNat == 62)
theorem stp_sg2 (d c : UInt8) (h : stp c = true) : sg2 d c = false := by
 unfold stp at h
 simp only [Bool.and_eq_true, Bool.not_eq_true', Bool.or_eq_false_iff] at h
 unfold sg2
 rw [h.2.1, h.2.2]
 simp
theorem stp_aln (c : UInt8) (h : stp c = true) : aln c = false := by
 unfold stp at h
 simp only [Bool.and_eq_true, Bool.not_eq_true'] at h
 exact h.1
theorem stp_dig (c : UInt8) (h : stp c = true) : dig c = false := by
 have := stp_aln c h
 unfold aln at this
 simp only [Bool.or_eq_false_iff] at this
 exact this.2
theorem signLen_stp (r : Bytes) (c : UInt8) (x : Bytes) (hr : r ≠ []) (h : stp c = true) : signLen (r ++ c :: x) = signLen r := by
 match r, hr with
 | [d], _ => show signLen (d :: c :: x) = _; simp only [signLen, stp_sg2 d c h]; rfl
 | d :: e :: y, _ => rfl
theorem next_stp (r : Bytes) (c : UInt8) (x : Bytes) (hr : r ≠ []) (h : stp c = true) : next (r ++ c :: x) = next r := by
 have e1 := run_app dig r c x (stp_dig c h)
 have e2 := run_app aln r c x (stp_aln c h)
 have e3 := signLen_stp r c x hr h
 match r, hr with
 | d :: y, _ =>
  have e4 : ((d :: y) ++ c :: x).take (run aln (d :: y)) = (d :: y).take (run aln (d :: y)) := List.take_append_of_le_length (run_le _ _)
  rw [List.cons_append] at e1 e2 e3 e4 ⊢
  unfold next
  dsimp only
  rw [e1, e2, e3, e4]
theorem lexBl_stp (x : UInt8) (hx : stp x = true) (b : Bytes) : ∀ (p : Nat) (a : Bytes), lexBl p (a ++ x :: b) =
  if (lexBl p a).2.2 = 0 then ((lexBl p a).1 ++ (lexBl (p + a.length) (x :: b)).1, (lexBl (p + a.length) (x :: b)).2) else lexBl p a := by
 refine lexBl_ind (P := fun p a => lexBl p (a ++ x :: b) = if (lexBl p a).2.2 = 0 then ((lexBl p a).1 ++ (lexBl (p + a.length) (x :: b)).1, (lexBl (p + a.length) (x :: b)).2) else lexBl p a) ?_ ?_ ?_ ?_
 ·intro p
  rw [List.nil_append, lexBl_nil, if_pos rfl]
  rfl
 ·intro p c r hb ih
  have e : p + 1 + r.length = p + (c :: r).length := by simp only [List.length_cons]; omega
  rw [List.cons_append, lexBl_blank _ _ _ hb, lexBl_blank _ _ _ hb, ih, e]
 ·intro p c r hb hn
  have hn' : next (c :: (r ++ x :: b)) = next (c :: r) := next_stp (c :: r) x b (by simp) hx
  rw [List.cons_append, lexBl_non _ _ _ hb, lexBl_non _ _ _ hb, lexA_err _ _ (by simp) (by rw [hn']; exact hn), lexA_err _ _ (by simp) hn, hn']
  rw [if_neg hn]
 ·intro p c r hb hn ih
  have hn' : next (c :: (r ++ x :: b)) = next (c :: r) := next_stp (c :: r) x b (by simp) hx
  obtain ⟨h1, h2, _⟩ := next_ok _ hn
  have hd : (c :: (r ++ x :: b)).drop (next (c :: r)).2.1 = (c :: r).drop (next (c :: r)).2.1 ++ x :: b := by
   show ((c :: r) ++ x :: b).drop _ = _
   rw [List.drop_append_of_le_length h2]
  have ht : (c :: (r ++ x :: b)).take (next (c :: r)).2.1 = (c :: r).take (next (c :: r)).2.1 := by
   show ((c :: r) ++ x :: b).take _ = _
   rw [List.take_append_of_le_length h2]
  have e : p + (next (c :: r)).2.1 + ((c :: r).drop (next (c :: r)).2.1).length = p + (c :: r).length := by rw [List.length_drop]; omega
  rw [List.cons_append, lexBl_non _ _ _ hb, lexBl_non _ _ _ hb, lexA_ok' _ _ (by simp) (by rw [hn']; exact hn), lexA_ok' _ _ (by simp) hn, hn', hd, ht, ih, e]
  dsimp only
  split
  ·rfl
  ·rfl
def Says (r : Bytes) (L : List (Nat × Bytes)) : Prop := ∀ p, (lexBl p r).2 = (0, 0) ∧ (lexBl p r).1.map kt = L
theorem map_mv (d : Nat) (l : List Tok) : (l.map (mv d)).map kt = l.map kt := by rw [List.map_map]; rfl
theorem Says.of_lex {s : Bytes} {T : List Tok} {q : Nat} (h : lex s = (T, q, 0)) : Says s (T.map kt) ∧ q = 0 := by
 rcases Nat.lt_or_ge 4000 s.length with hl | hl
 ·rw [lex_long s hl] at h; injection h with _ h; injection h with _ h; cases h
 ·rw [lex_small s hl] at h
  split at h
  ·rename_i h0
   injection h with h1 h2
   injection h2 with h2 h3
   refine ⟨fun p => ?_, h2.symm⟩
   have hm := lexBl_move p 0 s
   rw [Nat.zero_add, h0, if_pos rfl] at hm
   rw [hm, map_mv, h1]
   exact ⟨rfl, rfl⟩
  ·rename_i h0
   injection h with h1 h2
   injection h2 with h2 h3
   exact absurd h3 h0
theorem Says.lex {s : Bytes} {L : List (Nat × Bytes)} (h : Says s L) (hl : s.length ≤ 4000) : ∃ T, Lx.lex s = (T, 0, 0) ∧ T.map kt = L := by
 obtain ⟨h1, h2⟩ := h 0
 rw [lex_small s hl, h1, if_pos rfl]
 exact ⟨_, rfl, h2⟩
theorem Says.nil : Says [] [] := fun p => ⟨rfl, rfl⟩
theorem Says.app {a b : Bytes} {c : UInt8} {L M : List (Nat × Bytes)} (hc : stp c = true) (ha : Says a L) (hb : Says (c :: b) M) : Says (a ++ c :: b) (L ++ M) := by
 intro p
 obtain ⟨h1, h2⟩ := ha p
 obtain ⟨h3, h4⟩ := hb (p + a.length)
 rw [lexBl_stp c hc, h1, if_pos rfl, List.map_append, h2, h4]
 exact ⟨h3, rfl⟩
theorem Says.blank {b : Bytes} {c : UInt8} {M : List (Nat × Bytes)} (hc : bl c = true) (hb : Says b M) : Says (c :: b) M := by
 intro p
 rw [lexBl_blank _ _ _ hc]
 exact hb _
def one (c : UInt8) : Bool := sg1 c && !aln c && !bl c && !(c.toNat == 60 || c.toNat == 62)
theorem next_one (c : UInt8) (b : Bytes) (hc : one c = true) : next (c :: b) = (4, 1, 0) := by
 unfold one at hc
 simp only [Bool.and_eq_true, Bool.not_eq_true', Bool.or_eq_false_iff] at hc
 obtain ⟨⟨⟨h1, h2⟩, h3⟩, h4, h5⟩ := hc
 unfold aln at h2
 simp only [Bool.or_eq_false_iff] at h2
 have hs : signLen (c :: b) = 1 := by
  match b with
  | [] => show (if sg1 c then 1 else 0) = 1; rw [if_pos h1]
  | d :: b =>
   show (if sg2 c d then 2 else if sg1 c then 1 else 0) = 1
   have : sg2 c d = false := by unfold sg2; rw [h4, h5]; rfl
   rw [this, if_pos h1]; rfl
 unfold next
 dsimp only
 rw [h2.1, h2.2, hs]; rfl
theorem Says.sign {b : Bytes} {c : UInt8} {M : List (Nat × Bytes)} (hc : one c = true) (hb : Says b M) : Says (c :: b) ((4, [c]) :: M) := by
 intro p
 have hn := next_one c b hc
 have hbl : bl c = false := by
  unfold one at hc
  simp only [Bool.and_eq_true, Bool.not_eq_true', Bool.or_eq_false_iff] at hc
  exact hc.1.2
 rw [lexBl_non _ _ _ hbl, lexA_ok' _ _ (by simp) (by rw [hn]), hn]
 obtain ⟨h1, h2⟩ := hb (p + 1)
 refine ⟨h1, ?_⟩
 rw [List.map_cons]
 show _ :: ((lexBl (p + 1) b).1).map kt = _
 rw [h2]; rfl
theorem Says.word {w rest : Bytes} {M : List (Nat × Bytes)} (h : Wd w) (hr : run aln rest = 0) (hb : Says rest M) : Says (w ++ rest) ((3, w) :: M) := by
 intro p
 rw [bl_wd w rest h hr p]
 obtain ⟨h1, h2⟩ := hb (p + w.length)
 exact ⟨h1, by rw [List.map_cons, h2]; rfl⟩
structure Nm (w : Bytes) : Prop where
 wd : isWord w = false
 all : w.all aln = true
 len : w.length ≤ 16
 hd : ∃ c r, w = c :: r ∧ dig c = false ∧ ltr c = true ∧ bl c = false
theorem next_nm (w rest : Bytes) (h : Nm w) (hr : run aln rest = 0) : next (w ++ rest) = (2, w.length, 0) := by
 obtain ⟨c, r, rfl, h1, h2, h3⟩ := h.hd
 have e := run_all aln (c :: r) rest h.all hr
 have hl := h.len
 have hw := h.wd
 rw [List.cons_append] at e ⊢
 unfold next
 dsimp only
 rw [if_neg (by rw [h1]; simp), if_pos h2, e, if_neg (by omega)]
 have ht : (c :: (r ++ rest)).take (c :: r).length = c :: r := by rw [← List.cons_append]; exact List.take_left
 rw [ht, if_neg (by rw [hw]; simp)]
theorem Says.name {w rest : Bytes} {M : List (Nat × Bytes)} (h : Nm w) (hr : run aln rest = 0) (hb : Says rest M) : Says (w ++ rest) ((2, w) :: M) := by
 intro p
 have hn := next_nm w rest h hr
 obtain ⟨c, r, rfl, h1, h2, h3⟩ := h.hd
 rw [List.cons_append] at hn ⊢
 rw [lexBl_non _ _ _ h3, lexA_ok' _ _ (by simp) (by rw [hn]), hn]
 dsimp only
 have ht : (c :: (r ++ rest)).take (c :: r).length = c :: r := by rw [← List.cons_append]; exact List.take_left
 have hdr : (c :: (r ++ rest)).drop (c :: r).length = rest := by rw [← List.cons_append]; exact List.drop_left
 rw [ht, hdr]
 obtain ⟨h4, h5⟩ := hb (p + (c :: r).length)
 exact ⟨h4, by rw [List.map_cons, h5]; rfl⟩
theorem wd_not : Wd wNot := ⟨by decide, by decide, by decide, _, _, rfl, by decide, by decide, by decide⟩
theorem wd_forall : Wd wForall := ⟨by decide, by decide, by decide, _, _, rfl, by decide, by decide, by decide⟩
theorem wd_exists : Wd wExists := ⟨by decide, by decide, by decide, _, _, rfl, by decide, by decide, by decide⟩
end Pa
end Go.Proofs.YteneobpacobpdaaGreatDoor
namespace Go.Proofs.YteneobpacobpdaaGreatDoor
open Go.RowKit
namespace Pa
open Lx Fm Dc
def Gives (X : Bytes) (g : Fo) : Prop := ParseR (.iff false) fm X (some (.fo g)) 0 0 ∨ ∃ p, ParseR (.iff false) fm X none p 8
theorem drop_all {T : List Tok} {s : PS} (h : rst T s = []) : T.length ≤ s.next := by
 have : T.drop s.next = [] := by simpa [rst] using h
 exact List.drop_eq_nil_iff.1 this
theorem gives_of {X : Bytes} {L : List (Nat × Bytes)} {g : Fo} (hX : Says X L) (hl : X.length ≤ 4000) (h : ∀ T, T.map kt = L → ∃ t, Big T (.iff false) s0 (some (.fo g)) t ∧ rst T t = []) : Gives X g := by
 obtain ⟨T, hx, hT⟩ := hX.lex hl
 obtain ⟨t, hb, hr⟩ := h T hT
 have hn : ¬ t.next < T.length := by have := drop_all hr; omega
 by_cases ho : t.over = true
 ·refine .inr ⟨t.off, ?_⟩
  unfold ParseR
  rw [hx, if_neg (by simp)]
  refine ⟨_, t, hb, ?_, rfl⟩
  unfold verd
  rw [if_neg hn, if_neg (by simp [fm]), if_pos ho]
 ·refine .inl ?_
  unfold ParseR
  rw [hx, if_neg (by simp)]
  refine ⟨_, t, hb, ?_, rfl⟩
  unfold verd
  rw [if_neg hn, if_neg (by simp [fm]), if_neg ho]
theorem parse_ok {s : Bytes} {x : PV} {p : Nat} (h : ParseR (.iff false) fm s (some x) p 0) : ∃ f T t, x = .fo f ∧ lex s = (T, 0, 0) ∧ Big T (.iff false) s0 (some (.fo f)) t ∧ rst T t = [] ∧ t.over = false ∧ p = 0 := by
 unfold ParseR at h
 split at h
 ·cases h.1
 ·rename_i h0
  have h0 : (lex s).2.2 = 0 := Decidable.of_not_not h0
  obtain ⟨r0, s', hB, hv, hr⟩ := h
  rw [if_pos rfl] at hr
  rcases hlx : lex s with ⟨T, q, e⟩
  rw [hlx] at h0 hB hv
  dsimp only at h0 hB hv
  subst h0
  obtain ⟨-, rfl⟩ := Says.of_lex hlx
  match r0, hr with
  | some (.fo f), hr =>
   injection hr with hr
   unfold verd at hv
   split at hv
   ·cases hv
   ·rename_i hn
    split at hv
    ·cases hv
    ·split at hv
     ·cases hv
     ·rename_i ho
      injection hv with hv _
      refine ⟨f, T, s', hr, rfl, hB, ?_, by simpa using ho, hv⟩
      have : T.drop s'.next = [] := List.drop_eq_nil_iff.2 (by omega)
      simp [rst, this]
section
variable {T : List Tok}
theorem sees_hd2 {s : PS} {a : Nat × Bytes} {l : List (Nat × Bytes)} (h : rst T s = a :: l) (x : Bytes) : sees T s x = seesK a x := by rw [sees_k, h]; rfl
theorem rst_tail {s s1 : PS} {a : Nat × Bytes} {l : List (Nat × Bytes)} (h : rst T s = a :: l) (e : s1.next = s.next + 1) : rst T s1 = l := by rw [rst_next e, h]; rfl
theorem rst_same {s s1 : PS} {l : List (Nat × Bytes)} (h : rst T s = l) (e : s1.next = s.next) : rst T s1 = l := by unfold rst; rw [e]; exact h
theorem pk_hd2 {s : PS} {a : Nat × Bytes} {l : List (Nat × Bytes)} (h : rst T s = a :: l) : (pk T s).kind = a.1 ∧ (pk T s).text = a.2 := by
 have e := kt_pk T s
 rw [h] at e
 exact ⟨congrArg Prod.fst e, congrArg Prod.snd e⟩
end
section
variable {s : Bytes} {x : PV} {p : Nat}
theorem rst_s0 (T : List Tok) : rst T s0 = T.map kt := rfl
end
end Pa
end Go.Proofs.YteneobpacobpdaaGreatDoor
namespace Go.Proofs.YteneobpacobpdaaGreatDoor
open Go.RowKit
namespace Pa
open Lx Fm Dc
theorem FoAt.up {w w' : World} {f : Fo} {v : Value} (h : FoAt w (fun k => k < w.heap.size) f v) (hb : Below w.heap.size w w') : FoAt w' (fun k => k < w'.heap.size) f v :=
 FoAt.more (fun b h1 => Nat.lt_of_lt_of_le h1 hb.size) _ _ (h.below (fun b h => h) hb)
def GivesPost (Y : ByteArray) (g : Fo) (w : World) (e : Ending) (w' : World) : Prop :=
 ∃ va p x, e = .returned (.tuple #[va, .int .i64 p, .int .i64 x]) ∧ va.oneCell' = true ∧ ((x = 0 ∧ (∃ u z, va = .iface u z) ∧ FoAt w' (fun k => k < w'.heap.size) g va ∧ SmF g) ∨ (x = 8 ∧ va = .nilIface ∧ ∃ q, ParseR (.iff false) fm Y.data.toList none q 8)) ∧ Below w.heap.size w w'
theorem gives_walk (Y : ByteArray) (g : Fo) (h : Gives Y.data.toList g) (hs : Y.size ≤ 140737488351232) (w : World) : Calls Tryz.prog 6 #[.string Y] w (GivesPost Y g w) := by
 rcases h with h | ⟨p, h⟩
 ·refine (Parse_walk Y _ _ _ h hs w).mono ?_
  rintro e w' ⟨⟨u, z, rfl, hV⟩, hb⟩
  exact ⟨.iface u z, 0, 0, rfl, rfl, .inl ⟨rfl, ⟨_, _, rfl⟩, hV.1, hV.2.2⟩, hb⟩
 ·refine (Parse_walk Y _ _ _ h hs w).mono ?_
  rintro e w' ⟨rfl, hb⟩
  exact ⟨.nilIface, p, 8, rfl, rfl, .inr ⟨rfl, rfl, p, h⟩, hb⟩
theorem same_true (f : Fo) (va vf : Value) (w : World) (ha : FoAt w (fun k => k < w.heap.size) f va) (hf : FoAt w (fun k => k < w.heap.size) f vf) (sf : SmF f) : Calls Tryz.prog 8 #[va, vf] w fun e w' => e = .returned (.bool true) ∧ Below w.heap.size w w' :=
 fsame_any f f va vf _ w (fun b h => h) ha hf sf sf true (by simp)
end Pa
end Go.Proofs.YteneobpacobpdaaGreatDoor
