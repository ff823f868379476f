/-
  The parser: every call keeps its contract; every call ends.
-/
import Derived.Test.YteneobpacobpdaaGreatDoorHy
import Derived.Test.YteneobpacobpdaaGreatDoorPaI
import Derived.Test.YteneobpacobpdaaGreatDoorPaM
import Derived.Test.YteneobpacobpdaaGreatDoorPaT
import Derived.Test.YteneobpacobpdaaGreatDoorLxPlain
import Derived.Test.YteneobpacobpdaaGreatDoorLxR
set_option linter.unusedSimpArgs false
set_option linter.unusedVariables false
set_option maxRecDepth 100000
set_option maxHeartbeats 16000000
namespace Go.Proofs.YteneobpacobpdaaGreatDoor
open Go.RowKit
namespace Pa
open Lx Fm Dc
theorem all_any (C : Cx) (htok : TokOk C.T) : ∀ M, IH C M := by
 intro M
 induction M with
 | zero => intro c s h; exact absurd h (Nat.not_lt_zero _)
 | succ M ih =>
  intro c s hm r s' hB hg hok w h
  have ih' : IH C (mea C.T c s) := fun c2 s2 h2 => ih c2 s2 (by omega)
  cases c with
  | iff b => exact iff_walk C b s r s' hB hg ih' w h
  | imp b => exact implies_walk C b s r s' hB hg htok ih' w h
  | or b => exact or_walk C b s r s' hB hg ih' w h
  | and b => exact and_walk C b s r s' hB hg ih' w h
  | un b => exact unary_walk C b s r s' hB hg htok ih' w h
  | qu a => exact quant_walk C a s r s' hB hg htok ih' w h
  | atom b => exact atom_walk C b s r s' hB hg htok ih' w h
  | encl => exact enclosed_walk C s r s' hB hg hok htok ih' w h
  | term q => exact fun v hq => term_walk C q v s r s' hB hg ih' w h hq
  | prod q => exact fun v hq => product_walk C q v s r s' hB hg ih' w h hq
  | fac q => exact fun v hq => factor_walk C q v s r s' hB hg htok ih' w h hq
  | pow q => exact fun v hq => power_walk C q v s r s' hB hg htok ih' w h hq
  | prim => exact primary_walk C s r s' hB hg htok ih' w h
  | iffL x => trivial
  | orL x => trivial
  | andL x => trivial
  | atomT b q => trivial
  | termL x => trivial
  | prodL x => trivial
  | powT x => trivial
theorem call_any (C : Cx) (htok : TokOk C.T) (c : PC) (s : PS) : CP C c s := all_any C htok _ c s (Nat.lt_succ_self _)
end Pa
end Go.Proofs.YteneobpacobpdaaGreatDoor
namespace Go.Proofs.YteneobpacobpdaaGreatDoor
open Go.RowKit
namespace Pa
open Lx Fm Dc
attribute [local go_sem] run_store fieldTok0 fieldTok2
theorem next_ok2 (c : UInt8) (r : Bytes) (h : (next (c :: r)).2.2 = 0) (p : Nat) : ((c :: r).take (next (c :: r)).2.1).length ≤ 40 ∧ ((next (c :: r)).1 = 1 → (∀ x ∈ (c :: r).take (next (c :: r)).2.1, dig x = true) ∧ 0 < ((c :: r).take (next (c :: r)).2.1).length ∧ (((c :: r).take (next (c :: r)).2.1).length = 1 ∨ ∀ h : 0 < ((c :: r).take (next (c :: r)).2.1).length, (((c :: r).take (next (c :: r)).2.1)[0]'h).toNat ≠ 48)) := by
 unfold next at h ⊢
 dsimp only at h ⊢
 by_cases hd : dig c = true
 ·simp only [if_pos hd] at h ⊢
  by_cases h1 : c.toNat = 48 ∧ 1 < run dig (c :: r)
  ·rw [if_pos h1] at h; cases h
  ·simp only [if_neg h1] at h ⊢
   by_cases h2 : 40 < run dig (c :: r)
   ·rw [if_pos h2] at h; cases h
   ·simp only [if_neg h2] at h ⊢
    have e : (c :: r).take (run dig (c :: r)) = (c :: r).takeWhile dig := (List.prefix_iff_eq_take.1 (List.takeWhile_prefix dig)).symm
    have hl : ((c :: r).take (run dig (c :: r))).length = run dig (c :: r) := by rw [e]; rfl
    refine ⟨by rw [hl]; omega, fun _ => ⟨?_, ?_, ?_⟩⟩
    ·rw [e]; intro x hx; have := List.all_takeWhile (p := dig) (l := c :: r); rw [List.all_eq_true] at this; exact this x hx
    ·rw [hl, run_cons, if_pos hd]; omega
    ·rcases Nat.lt_or_ge 1 (run dig (c :: r)) with h3 | h3
     ·right
      intro h4
      rw [List.getElem_take]
      exact fun e => h1 ⟨e, h3⟩
     ·left; rw [hl]; have := run_cons dig c r; rw [if_pos hd] at this; omega
 ·simp only [if_neg hd] at h ⊢
  by_cases hl : ltr c = true
  ·simp only [if_pos hl] at h ⊢
   by_cases h2 : 16 < run aln (c :: r)
   ·rw [if_pos h2] at h; cases h
   ·simp only [if_neg h2] at h ⊢
    refine ⟨by rw [List.length_take]; omega, fun e => ?_⟩
    split at e <;> cases e
  ·simp only [if_neg hl] at h ⊢
   by_cases h2 : 0 < signLen (c :: r)
   ·simp only [if_pos h2] at h ⊢
    refine ⟨?_, fun e => by cases e⟩
    rw [List.length_take]
    have : signLen (c :: r) ≤ 2 := by
     unfold signLen
     split
     ·omega
     ·split <;> omega
     ·split
      ·omega
      ·split <;> omega
    omega
   ·rw [if_neg h2] at h; cases h
theorem tokOk_bl : ∀ (p : Nat) (r : Bytes), TokOk (lexBl p r).1 := by
 refine lexBl_ind (P := fun p r => TokOk (lexBl p r).1) ?_ ?_ ?_ ?_
 ·intro p t ht; rw [lexBl_nil] at ht; simp at ht
 ·intro p c r hb ih t ht
  rw [lexBl_blank _ _ _ hb] at ht
  exact ih t ht
 ·intro p c r hb hn t ht
  rw [lexBl_non _ _ _ hb, lexA_err _ _ (by simp) hn] at ht; simp at ht
 ·intro p c r hb hn ih t ht
  rw [lexBl_non _ _ _ hb, lexA_ok' _ _ (by simp) hn] at ht
  rcases List.mem_cons.1 ht with rfl | ht
  ·exact next_ok2 c r hn p
  ·exact ih t ht
theorem lex_long (s : Bytes) (h : 4000 < s.length) : lex s = ([], 4000, 8) := by unfold lex; rw [if_pos h]
theorem tokOk_lex (s : Bytes) : TokOk (lex s).1 := by
 rcases Nat.lt_or_ge 4000 s.length with h | h
 ·rw [lex_long s h]; intro t ht; cases ht
 ·rw [lex_small s h]
  split
  ·exact tokOk_bl 0 s
  ·intro t ht; cases ht
theorem bl_pos : ∀ (p : Nat) (r : Bytes), (lexBl p r).1.length ≤ r.length ∧ ∀ t ∈ (lexBl p r).1, t.pos ≤ p + r.length := by
 refine lexBl_ind (P := fun p r => (lexBl p r).1.length ≤ r.length ∧ ∀ t ∈ (lexBl p r).1, t.pos ≤ p + r.length) ?_ ?_ ?_ ?_
 ·intro p; rw [lexBl_nil]; exact ⟨Nat.le_refl _, fun t ht => by cases ht⟩
 ·intro p c r hb ih
  rw [lexBl_blank _ _ _ hb]
  refine ⟨Nat.le_succ_of_le ih.1, fun t ht => ?_⟩
  have := ih.2 t ht
  simp only [List.length_cons]; omega
 ·intro p c r hb hn
  rw [lexBl_non _ _ _ hb, lexA_err _ _ (by simp) hn]
  exact ⟨Nat.zero_le _, fun t ht => by cases ht⟩
 ·intro p c r hb hn ih
  rw [lexBl_non _ _ _ hb, lexA_ok' _ _ (by simp) hn]
  obtain ⟨h1, h2, _⟩ := next_ok _ hn
  have h3 := ih.1
  rw [List.length_drop] at h3
  refine ⟨by simp only [List.length_cons] at *; omega, fun t ht => ?_⟩
  rcases List.mem_cons.1 ht with rfl | ht
  ·exact Nat.le_add_right _ _
  ·have := ih.2 t ht
   rw [List.length_drop] at this
   omega
theorem lex_pos (s : Bytes) (h0 : (lex s).2.2 = 0) : ((lex s).1.length ≤ s.length ∧ s.length ≤ 4000) ∧ ∀ t ∈ (lex s).1, t.pos ≤ 4000 := by
 rcases Nat.lt_or_ge 4000 s.length with h | h
 ·rw [lex_long s h] at h0; cases h0
 ·have h1 := bl_pos 0 s
  rw [lex_small s h]
  split
  ·exact ⟨⟨h1.1, h⟩, fun t ht => by have := h1.2 t ht; omega⟩
  ·exact ⟨⟨Nat.zero_le _, h⟩, fun t ht => by cases ht⟩
def fm : Option PV → Option PV
 | some (.fo f) => some (.fo f)
 | _ => none
theorem formula_any (C : Cx) (htok : TokOk C.T) (s : PS) (r : Option PV) (s' : PS) (hB : Big C.T (.iff false) s r s') (hg : Gd s) (w : World) (h : C.At s w) :
  Calls Tryz.prog 14 #[C.p] w (FPost C (fm r) s' w) := by
 have HI := h_ (call_any C htok _ s _ _ hB hg (notEncl (by simp)) w h)
 obtain ⟨Cb, Cpb, Cmb, CT, CA, Cn, Cc⟩ := C
 clear h hg hB htok
 match r, HI with
 | none, HI =>
  go_enter Tryz.func14, Tryz.ntmps14
  go_wp2_with fail
  refine HI.out.mono ?_
  rintro e w1 ⟨v, rfl, hov, hP, hO⟩
  have HE := h_ (show FPost ⟨Cb, Cpb, Cmb, CT, CA, Cn, Cc⟩ none s' w (.returned (.tuple #[.nilIface, .bool false])) w1 from ⟨_, rfl, rfl, hP, hO⟩)
  clear hP hO
  go_wp2
  go_ret2
  exact HE.out
 | some (.fo f), HI =>
  go_enter Tryz.func14, Tryz.ntmps14
  go_wp2_with fail
  refine HI.out.mono ?_
  rintro e w1 ⟨u, z, rfl, hv, hP, hO⟩
  obtain ⟨u', z', ee, hyF⟩ := PVAt.isF hv
  injection ee with e1 e2
  obtain rfl := e1
  obtain rfl := e2
  have HE := h_ (show FPost ⟨Cb, Cpb, Cmb, CT, CA, Cn, Cc⟩ (some (.fo f)) s' w (.returned (.tuple #[.iface u z, .bool true])) w1 from ⟨_, _, rfl, hv, hP, hO⟩)
  clear hP hO hv
  go_wp2
  go_ret2
  exact HE.out
 | some (.tm t), HI =>
  go_enter Tryz.func14, Tryz.ntmps14
  go_wp2_with fail
  refine HI.out.mono ?_
  rintro e w1 ⟨u, z, rfl, hv, hP, hO⟩
  obtain ⟨u', z', ee, hyF, hyT⟩ := PVAt.isT hv
  injection ee with e1 e2
  obtain rfl := e1
  obtain rfl := e2
  have HE := h_ (show FPost ⟨Cb, Cpb, Cmb, CT, CA, Cn, Cc⟩ none s' w (.returned (.tuple #[.nilIface, .bool false])) w1 from ⟨_, rfl, rfl, hP, hO⟩)
  clear hP hO hv
  go_wp2
  go_ret2
  exact HE.out
def s0 : PS := ⟨0, 0, 0, [], false, 0⟩
def ParseR (c : PC) (g : Option PV → Option PV) (s : Bytes) (r : Option PV) (p e : Nat) : Prop :=
 if (lex s).2.2 ≠ 0 then r = none ∧ p = (lex s).2.1 ∧ e = (lex s).2.2
 else ∃ r0 s', Big (lex s).1 c s0 r0 s' ∧ (p, e) = verd (lex s).1 (g r0).isSome s.length s' ∧ r = if e = 0 then g r0 else none
theorem below_owns {B : Nat} {F : Nat → Prop} {w w' : World} (h : Owns w w' F F) (hF : ∀ k, F k → B ≤ k) (hB : B ≤ w.heap.size) : Below B w w' := ⟨h.os, h.tape, h.output, h.size, fun k hk => h.same k (Nat.lt_of_lt_of_le hk hB) (fun e => absurd (hF k e) (by omega))⟩
theorem PVAt.all {w : World} {pb mb : Nat} {x : PV} {v : Value} (h : PVAt w (Gp pb mb w) x v) : PVAt w (fun k => k < w.heap.size) x v := by
 cases x with
 | tm t => exact ⟨TmAt.more (fun b hb => hb.1) _ _ h.1, h.2⟩
 | fo f => exact ⟨FoAt.more (fun b hb => hb.1) _ _ h.1, h.2⟩
theorem PVAt.below2 {w w' : World} {x : PV} {v : Value} (h : PVAt w (fun k => k < w.heap.size) x v) (hb : Below w.heap.size w w') : PVAt w' (fun k => k < w'.heap.size) x v := by
 cases x with
 | tm t => exact ⟨TmAt.more (fun b h1 => Nat.lt_of_lt_of_le h1 hb.size) _ _ (h.1.below (fun b h1 => h1) hb), h.2⟩
 | fo f => exact ⟨FoAt.more (fun b h1 => Nat.lt_of_lt_of_le h1 hb.size) _ _ (h.1.below (fun b h1 => h1) hb), h.2⟩
def ParsePost (r : Option PV) (p e : Nat) (w : World) (en : Ending) (w' : World) : Prop :=
 (match r with
 | none => en = .returned (.tuple #[.nilIface, .int .i64 p, .int .i64 e])
 | some x => ∃ u z, en = .returned (.tuple #[.iface u z, .int .i64 p, .int .i64 e]) ∧ PVAt w' (fun k => k < w'.heap.size) x (.iface u z)) ∧ Below w.heap.size w w'
theorem Parse_walk (s : ByteArray) (r : Option PV) (p e : Nat) (hR : ParseR (.iff false) fm s.data.toList r p e) (hs : s.size ≤ 140737488351232) (w : World) :
  Calls Tryz.prog 6 #[.string s] w (ParsePost r p e w) := by
 have hmm := @run_makeMap Tryz.prog
 unfold ParseR at hR
 have HL := h_ (lex_any s w hs)
 rcases hlx : lex s.data.toList with ⟨toks, q, er⟩
 rw [hlx] at hR
 by_cases he : er = 0
 case neg =>
  rw [if_pos he] at hR
  obtain ⟨rfl, rfl, rfl⟩ := hR
  have hene : ((e : Int) == 0) = false := by rw [beq_eq_false_iff_ne]; omega
  have HX := h_ hlx
  clear hlx he
  go_enter Tryz.func6, Tryz.ntmps6
  go_wp2_with fail
  refine HL.out.mono ?_
  rintro e w' ⟨v, toks', p', er', rfl, hlex, hown, hbel⟩
  rw [HX.out] at hlex
  injection hlex with g1 g2
  injection g2 with g2 g3
  subst g1 g2 g3
  have hov : v.oneCell' = true := by obtain ⟨A, c, rfl⟩ := (Sl.of_own hown).form; rfl
  have HB := h_ hbel
  clear hown hbel
  go_wp2
  go_ret3
  exact ⟨rfl, HB.out⟩
 case pos =>
  subst he
  rw [if_neg (by simp)] at hR
  obtain ⟨r0, s', hB, hv, hr⟩ := hR
  have htok := tokOk_lex s.data.toList
  have hpos := lex_pos s.data.toList (by rw [hlx])
  rw [hlx] at htok hpos
  dsimp only at htok hpos
  have HX := h_ hlx
  have HV := h_ hv
  have HR := h_ hr
  have HBg := h_ hB
  have HTO := h_ htok
  have HPO := h_ hpos
  clear hlx hv hr hB htok hpos
  go_enter Tryz.func6, Tryz.ntmps6
  go_wp2_with fail
  refine HL.out.mono ?_
  rintro en w1 ⟨v, toks', p', er', rfl, hlex, hown, hbel⟩
  rw [HX.out] at hlex
  injection hlex with g1 g2
  injection g2 with g2 g3
  subst g1 g2 g3
  have hS := Sl.of_own hown
  obtain ⟨A, c, rfl⟩ := hS.form
  have HB := h_ hbel
  have HS := h_ hS
  clear hown hbel hS
  obtain ⟨W, hWW⟩ : ∃ W, (w1.alloc (.map #[] 0)).alloc (.cells #[.slice A toks.length c, .int .i64 0, .int .i64 0, .int .i64 0, .map (some w1.heap.size), .bool false, .int .i64 0] tPa) = W := ⟨_, rfl⟩
  have hbW : Below w1.heap.size w1 W := by
   rw [← hWW]
   exact ((Below.refl _ w1).alloc (Nat.le_refl _) _).alloc (by simp) _
  have hP : PAt w1.heap.size (w1.heap.size + 1) w1.heap.size toks A toks.length c s0 W :=
   {ne := by omega, bp := Nat.le_succ _, bm := Nat.le_refl _, hn := rfl, len := Nat.le_trans HPO.out.1.1 HPO.out.1.2, next := Nat.zero_le _, depth := Nat.zero_le _, rels := Nat.zero_le _, nms := Nat.zero_le _, small := HPO.out.2
    box := by
     rw [← hWW]
     have h := heap_alloc_new (w1.alloc (.map #[] 0)) (.cells #[.slice A toks.length c, .int .i64 0, .int .i64 0, .int .i64 0, .map (some w1.heap.size), .bool false, .int .i64 0] tPa)
     have e : (w1.alloc (.map #[] 0)).heap.size = w1.heap.size + 1 := by simp
     rw [e] at h
     exact h
    map := by
     refine (MapB.made w1).keep ?_
     rw [← hWW, Below.heap_alloc _ _ _ (by simp)]
    toks := HS.out.keep (fun p hp => hbW.cell hp) }
  have hFF := (formula_any ⟨w1.heap.size, w1.heap.size + 1, w1.heap.size, toks, A, toks.length, c⟩ HTO.out s0 r0 s' HBg.out ⟨Nat.le_refl _, Nat.le_refl _, Nat.le_refl _⟩ W hP)
  obtain ⟨X, hX⟩ : ∃ X, X = fm r0 := ⟨_, rfl⟩
  rw [← hX] at hFF HV HR
  have HF := h_ hFF
  clear hFF hX
  have HB1 := h_ (HB.out.trans (hbW.mono HB.out.size))
  have HPT := h_ (show w1.heap.size + 1 < W.heap.size from hP.lt)
  clear hP hbW
  have HBO := h_ (fun w2 (h : Owns W w2 (Fp (w1.heap.size + 1) w1.heap.size) (Fp (w1.heap.size + 1) w1.heap.size)) => HB1.out.trans (below_owns h (B := w.heap.size) (fun k hk => by have h5 := HB.out.size; rcases (show k = w1.heap.size + 1 ∨ k = w1.heap.size from hk) with e | e <;> omega) (HB1.out.size)))
  go_wp2_with fail
  refine HF.out.mono ?_
  intro en w2 hF
  clear hWW
  cases X with
  | none =>
   obtain ⟨v2, rfl, hov2, hP2, hO2⟩ := hF
   have hVd := verdict_any _ _ _ _ _ _ _ s' false s.size w2 hP2
   have hv := HV.out
   have he6 : e = 6 := by
    have h7 : e = (verd toks false s.size s').2 := by have := congrArg Prod.snd hv; exact this
    rw [h7]; unfold verd; split <;> rfl
   rw [show verd toks false s.size s' = (p, e) from hv.symm] at hVd
   obtain rfl : r = none := by have h8 := HR.out; rw [if_neg (by rw [he6]; decide)] at h8; exact h8
   subst he6
   have HVd := h_ hVd
   have HB3 := h_ (HBO.out w2 hO2)
   clear hP2 hO2 hv hVd
   go_wp2_with fail
   refine HVd.out.mono ?_
   rintro en w3 ⟨rfl, hb3⟩
   have HE := h_ (show ParsePost none p 6 w (.returned (.tuple #[.nilIface, .int .i64 p, .int .i64 ((6 : Nat) : Int)])) w3 from ⟨rfl, HB3.out.trans (hb3.mono HB3.out.size)⟩)
   clear hb3
   go_wp2
   go_ret3
   exact HE.out
  | some x =>
   obtain ⟨u, z, rfl, hvx, hP2, hO2⟩ := hF
   have hVd := verdict_any _ _ _ _ _ _ _ s' true s.size w2 hP2
   have hv := HV.out
   rw [show verd toks true s.size s' = (p, e) from hv.symm] at hVd
   have HVd := h_ hVd
   have HB3 := h_ (HBO.out w2 hO2)
   have HVX := h_ hvx
   by_cases he : e = 0
   case pos =>
    have hp0 : p = 0 := by
     have h7 : e = (verd toks true s.size s').2 := congrArg Prod.snd hv
     have h8 : p = (verd toks true s.size s').1 := congrArg Prod.fst hv
     rw [h8]; rw [he] at h7
     unfold verd at h7 ⊢
     split at h7
     ·cases h7
     ·split at h7
      ·cases h7
      ·split at h7
       ·cases h7
       ·rename_i a b c; rw [if_neg a, if_neg b, if_neg c]
    obtain rfl : r = some x := by have h8 := HR.out; rw [if_pos he] at h8; exact h8
    subst he hp0
    clear hP2 hO2 hv hVd hvx
    go_wp2_with fail
    refine HVd.out.mono ?_
    rintro en w3 ⟨rfl, hb3⟩
    have HE := h_ (show ParsePost (some x) 0 0 w (.returned (.tuple #[.iface u z, .int .i64 0, .int .i64 0])) w3 from ⟨⟨u, z, rfl, (HVX.out.all).below2 hb3⟩, HB3.out.trans (hb3.mono HB3.out.size)⟩)
    clear hb3
    go_wp2
    go_ret3
    exact HE.out
   case neg =>
    have hene : ((e : Int) == 0) = false := by rw [beq_eq_false_iff_ne]; omega
    obtain rfl : r = none := by have h8 := HR.out; rw [if_neg he] at h8; exact h8
    clear hP2 hO2 hv hVd hvx he
    go_wp2_with fail
    refine HVd.out.mono ?_
    rintro en w3 ⟨rfl, hb3⟩
    have HE := h_ (show ParsePost none p e w (.returned (.tuple #[.nilIface, .int .i64 p, .int .i64 e])) w3 from ⟨rfl, HB3.out.trans (hb3.mono HB3.out.size)⟩)
    clear hb3
    go_wp2
    go_ret3
    exact HE.out
end Pa
end Go.Proofs.YteneobpacobpdaaGreatDoor
namespace Go.Proofs.YteneobpacobpdaaGreatDoor
open Go.RowKit
namespace Pa
open Lx Fm Dc
attribute [local go_sem] run_store fieldTok0 fieldTok2
end Pa
end Go.Proofs.YteneobpacobpdaaGreatDoor
