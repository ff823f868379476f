/-
  The parser's functions, each walked under the contracts of those that it calls.
-/
import Derived.Test.YteneobpacobpdaaGreatDoorHy
import Derived.Test.YteneobpacobpdaaGreatDoorPaC
import Derived.Test.YteneobpacobpdaaGreatDoorDcX
set_option linter.unusedSimpArgs false
set_option linter.unusedVariables false
set_option maxRecDepth 100000
set_option maxHeartbeats 16000000
namespace Go.Proofs.YteneobpacobpdaaGreatDoor
open Go.RowKit
namespace Pa
open Lx Fm Dc
attribute [local go_sem] run_store fieldTok0 fieldTok2
theorem Gd.c_adv {s : PS} (h : Gd s) : Gd (adv s) := ⟨Nat.le_succ_of_le h.1, Nat.le_succ_of_le h.2.1, Nat.le_succ_of_le h.2.2⟩
theorem Gd.c_dn {s : PS} (h : Gd s) : Gd (dn s) := ⟨Nat.le_trans (Nat.sub_le _ _) h.1, h.2⟩
theorem Gd.c_exc {s : PS} (h : Gd s) (p : Nat) : Gd (exc s p) := by obtain ⟨e1, e2, e3, e4⟩ := exc_eq s p; unfold Gd; rw [e1, e2, e3, e4]; exact h
theorem inc_eq (T : List Tok) (s : PS) : (inc T s).next = s.next ∧ (inc T s).depth = s.depth + 1 ∧ (inc T s).rels = s.rels ∧ (inc T s).names = s.names := by
 unfold inc; split
 ·obtain ⟨e1, e2, e3, e4⟩ := exc_eq { s with depth := s.depth + 1 } (pk T s).pos
  exact ⟨e1, e2, e3, e4⟩
 ·exact ⟨rfl, rfl, rfl, rfl⟩
theorem Gd.c_opn {T : List Tok} {s : PS} (h : Gd s) : Gd (opn T s) := by
 obtain ⟨e1, e2, e3, e4⟩ := inc_eq T s
 unfold opn Pa.adv Gd
 simp only [e1, e2, e3, e4]
 have := h.1; have := h.2.1; have := h.2.2
 omega
theorem nm1_eq (T : List Tok) (s : PS) : (nm1 T s).next = s.next ∧ (nm1 T s).depth = s.depth ∧ (nm1 T s).rels = s.rels ∧ (nm1 T s).names.length ≤ s.names.length + 1 := by
 unfold nm1
 split
 ·exact ⟨rfl, rfl, rfl, Nat.le_succ _⟩
 ·split
  ·obtain ⟨e1, e2, e3, e4⟩ := exc_eq { s with names := s.names ++ [bs (pk T s).text] } (pk T s).pos
   exact ⟨e1, e2, e3, by rw [e4]; simp⟩
  ·exact ⟨rfl, rfl, rfl, by simp⟩
theorem nam_gd {T : List Tok} {s : PS} (h1 : s.depth ≤ s.next + 1) (h2 : s.rels ≤ s.next) (h3 : s.names.length ≤ s.next) : Gd (nam T s) := by
 obtain ⟨e1, e2, e3, e4⟩ := nm1_eq T s
 unfold nam Pa.adv Gd
 simp only [e1, e2, e3]
 omega
theorem Gd.c_nam {T : List Tok} {s : PS} (h : Gd s) : Gd (nam T s) := nam_gd (Nat.le_succ_of_le h.1) h.2.1 h.2.2
theorem Gd.c_naminc {T : List Tok} {s : PS} (h : Gd s) : Gd (nam T (inc T s)) := by
 obtain ⟨e1, e2, e3, e4⟩ := inc_eq T s
 exact nam_gd (by rw [e1, e2]; have := h.1; omega) (by rw [e1, e3]; exact h.2.1) (by rw [e1, e4]; exact h.2.2)
theorem Gd.c_rel {T : List Tok} {s : PS} (h : Gd s) : Gd (relS T s) := by
 have e : (rel1 T s).next = s.next ∧ (rel1 T s).depth = s.depth ∧ (rel1 T s).rels = s.rels + 1 ∧ (rel1 T s).names = s.names := by
  unfold rel1; split
  ·obtain ⟨e1, e2, e3, e4⟩ := exc_eq { s with rels := s.rels + 1 } (pk T s).pos
   exact ⟨e1, e2, e3, e4⟩
  ·exact ⟨rfl, rfl, rfl, rfl⟩
 obtain ⟨e1, e2, e3, e4⟩ := e
 unfold relS Pa.adv Gd
 simp only [e1, e2, e3, e4]
 have := h.1; have := h.2.1; have := h.2.2
 omega
theorem Gd.c_meas {s : PS} (h : Gd s) (t : Tok) (x : Tm) (l : List Tm) : Gd (meas s t x l) := by unfold Pa.meas; split; exact h.c_exc _; exact h
theorem Gd.c_pow {T : List Tok} {x : Tm} {s : PS} (h : Gd s) : Gd (powS T x s) := by
 unfold powS
 refine Gd.c_meas ?_ _ _ _
 split
 ·exact h.c_adv.c_adv.c_exc _
 ·exact h.c_adv.c_adv
theorem Big.gd {T : List Tok} {c : PC} {s s' : PS} {r : Option PV} (h : Big T c s r s') : Gd s → Gd s' := by
 induction h with
 | iff_no _ i => exact i
 | iff_go _ _ i j => exact fun g => j (i g)
 | iffL_end _ => exact id
 | iffL_bad _ _ i => exact fun g => i g.c_adv
 | iffL_go _ _ _ i j => exact fun g => j (i g.c_adv)
 | imp_no _ i => exact i
 | imp_one _ _ i => exact i
 | imp_bad _ _ _ i j => exact fun g => j (i g).c_adv
 | imp_two _ _ _ i j => exact fun g => j (i g).c_adv
 | or_no _ i => exact i
 | or_go _ _ i j => exact fun g => j (i g)
 | orL_end _ => exact id
 | orL_bad _ _ i => exact fun g => i g.c_adv
 | orL_go _ _ _ i j => exact fun g => j (i g.c_adv)
 | and_no _ i => exact i
 | and_go _ _ i j => exact fun g => j (i g)
 | andL_end _ => exact id
 | andL_bad _ _ i => exact fun g => i g.c_adv
 | andL_go _ _ _ i j => exact fun g => j (i g.c_adv)
 | un_not_no _ _ i => exact fun g => (i g.c_opn).c_dn
 | un_not _ _ i => exact fun g => (i g.c_opn).c_dn
 | un_all _ _ _ i => exact fun g => i g.c_adv
 | un_ex _ _ _ _ i => exact fun g => i g.c_adv
 | un_true _ _ _ _ => exact Gd.c_adv
 | un_false _ _ _ _ _ => exact Gd.c_adv
 | un_atom _ _ _ _ _ _ i => exact i
 | qu_no _ => exact id
 | qu_comma_no _ _ _ i => exact fun g => (i g.c_naminc.c_adv).c_dn
 | qu_comma _ _ _ i => exact fun g => (i g.c_naminc.c_adv).c_dn
 | qu_dot_no _ _ _ _ i => exact fun g => (i g.c_naminc.c_adv).c_dn
 | qu_dot _ _ _ _ i => exact fun g => (i g.c_naminc.c_adv).c_dn
 | qu_bad _ _ _ => exact fun g => g.c_naminc.c_dn
 | at_no _ _ i => exact i
 | at_fo _ _ i => exact i
 | at_par _ _ _ i j => exact fun g => j (i g)
 | at_go _ _ i => exact i
 | atT_no _ i => exact i
 | atT_bare _ _ _ i => exact i
 | atT_none _ _ _ i => exact i
 | atT_bad _ _ _ i j => exact fun g => j (i g).c_rel
 | atT_ok _ _ _ i j => exact fun g => j (i g).c_rel
 | en_no _ i => exact fun g => (i g.c_opn).c_dn
 | en_bad _ _ i => exact fun g => (i g.c_opn).c_dn
 | en_ok _ _ i => exact fun g => (i g.c_opn).c_dn.c_adv
 | te_no _ i => exact i
 | te_go _ _ i j => exact fun g => j (i g)
 | teL_end _ => exact id
 | teL_bad _ _ i => exact fun g => i g.c_adv
 | teL_go _ _ _ i j => exact fun g => j ((i g.c_adv).c_meas _ _ _)
 | pd_no _ i => exact i
 | pd_go _ _ i j => exact fun g => j (i g)
 | pdL_end _ => exact id
 | pdL_bad _ _ i => exact fun g => i g.c_adv
 | pdL_go _ _ _ i j => exact fun g => j ((i g.c_adv).c_meas _ _ _)
 | fa_first _ i => exact i
 | fa_pow _ _ i => exact i
 | fa_no _ _ i => exact fun g => (i g.c_opn).c_dn
 | fa_neg _ _ i => exact fun g => (i g.c_opn).c_dn
 | po_first _ i => exact i
 | po_no _ i => exact i
 | po_go _ _ i j => exact fun g => j (i g)
 | pT_end _ => exact id
 | pT_bad _ _ => exact Gd.c_adv
 | pT_ok _ _ => exact Gd.c_pow
 | pr_num _ => exact Gd.c_adv
 | pr_name _ => exact Gd.c_nam
 | pr_no _ _ i => exact fun g => (i g.c_opn).c_dn
 | pr_bad _ _ _ i => exact fun g => (i g.c_opn).c_dn
 | pr_ok _ _ _ i => exact fun g => (i g.c_opn).c_dn.c_adv
 | pr_none _ _ _ => exact id
def TokOk (T : List Tok) : Prop := ∀ t ∈ T, t.text.length ≤ 40 ∧ (t.kind = 1 → (∀ c ∈ t.text, dig c = true) ∧ 0 < t.text.length ∧ (t.text.length = 1 ∨ ∀ h : 0 < t.text.length, (t.text[0]'h).toNat ≠ 48))
theorem TokOk.pk {T : List Tok} (h : TokOk T) (s : PS) : (pk T s).text.length ≤ 40 := by
 unfold Pa.pk
 rcases hx : T[s.next]? with _ | t
 ·exact Nat.zero_le _
 ·exact (h t (List.mem_of_getElem? hx)).1
structure Cx where
 B : Nat
 pb : Nat
 mb : Nat
 T : List Tok
 A : Option Addr
 n : Nat
 c : Nat
abbrev Cx.At (C : Cx) (s : PS) (w : World) : Prop := PAt C.B C.pb C.mb C.T C.A C.n C.c s w
abbrev Cx.V (C : Cx) (w : World) (x : PV) (v : Value) : Prop := PVAt w (Gp C.pb C.mb w) x v
abbrev Cx.O (C : Cx) (w w' : World) : Prop := Owns w w' (Fp C.pb C.mb) (Fp C.pb C.mb)
abbrev Cx.p (C : Cx) : Value := .pointer (some ⟨C.pb, 0, none⟩)
def FPost (C : Cx) (r : Option PV) (s' : PS) (w : World) (e : Ending) (w' : World) : Prop :=
 match r with
 | none => ∃ v, e = .returned (.tuple #[v, .bool false]) ∧ v.oneCell' = true ∧ C.At s' w' ∧ C.O w w'
 | some x => ∃ u z, e = .returned (.tuple #[.iface u z, .bool true]) ∧ C.V w' x (.iface u z) ∧ C.At s' w' ∧ C.O w w'
def QAt (C : Cx) (w : World) : Option Tm → Value → Prop
 | none, v => v = .nilIface
 | some t, v => C.V w (.tm t) v
def CallsP (C : Cx) (c : PC) (r : Option PV) (s' : PS) (w : World) : Prop :=
 match c with
 | .iff b => Calls Tryz.prog 37 #[C.p, .bool b] w (FPost C r s' w)
 | .imp b => Calls Tryz.prog 67 #[C.p, .bool b] w (FPost C r s' w)
 | .or b => Calls Tryz.prog 84 #[C.p, .bool b] w (FPost C r s' w)
 | .and b => Calls Tryz.prog 94 #[C.p, .bool b] w (FPost C r s' w)
 | .un b => Calls Tryz.prog 100 #[C.p, .bool b] w (FPost C r s' w)
 | .qu a => Calls Tryz.prog 107 #[C.p, .bool a] w (FPost C r s' w)
 | .atom b => Calls Tryz.prog 108 #[C.p, .bool b] w (FPost C r s' w)
 | .encl => Calls Tryz.prog 116 #[C.p] w (FPost C r s' w)
 | .term q => ∀ v, QAt C w q v → Calls Tryz.prog 117 #[C.p, v] w (FPost C r s' w)
 | .prod q => ∀ v, QAt C w q v → Calls Tryz.prog 121 #[C.p, v] w (FPost C r s' w)
 | .fac q => ∀ v, QAt C w q v → Calls Tryz.prog 123 #[C.p, v] w (FPost C r s' w)
 | .pow q => ∀ v, QAt C w q v → Calls Tryz.prog 125 #[C.p, v] w (FPost C r s' w)
 | .prim => Calls Tryz.prog 126 #[C.p] w (FPost C r s' w)
 | _ => True
def CP (C : Cx) (c : PC) (s : PS) : Prop := ∀ r s', Big C.T c s r s' → Gd s → Ok C.T c s → ∀ w, C.At s w → CallsP C c r s' w
def IH (C : Cx) (M : Nat) : Prop := ∀ c s, mea C.T c s < M → CP C c s
theorem notEncl {T : List Tok} {c : PC} {s : PS} (h : c ≠ .encl) : Ok T c s := fun e => absurd e h
theorem mea_same {T : List Tok} {c d : PC} {s : PS} (h : lvl c < lvl d) : mea T c s < mea T d s := by unfold mea; omega
theorem lvl_lt (c : PC) : lvl c < 16 := by cases c <;> simp [lvl]
theorem mea_adv {T : List Tok} {c d : PC} {s s1 : PS} (h : s.next < s1.next) (h2 : s.next < T.length) : mea T c s1 < mea T d s := by
 unfold mea
 have := lvl_lt c
 omega
def msr (n pb : Nat) (ok : Value) (w : World) : Nat :=
 match ok, w.cell? ⟨pb, 1, none⟩ with
 | .bool true, some (.int _ k) => n + 1 - k.toNat
 | _, _ => 0
theorem msr_true {C : Cx} {s : PS} {w : World} (h : C.At s w) : msr C.n C.pb (.bool true) w = C.n + 1 - s.next := by
 unfold msr
 rw [h.cells.2.1]
 simp
theorem msr_false (n pb : Nat) (w : World) : msr n pb (.bool false) w = 0 := by unfold msr; rfl
end Pa
end Go.Proofs.YteneobpacobpdaaGreatDoor
namespace Go.Proofs.YteneobpacobpdaaGreatDoor
open Go.RowKit
namespace Pa
open Lx Fm Dc
attribute [local go_sem] run_store fieldTok0 fieldTok2
attribute [local go_sem] anF_Num anF_Name anF_Add anF_Sub anF_Mul anF_Neg anF_Pow anF_Truth anF_Atom anF_Not anF_And anF_Or anF_Implies anF_Iff anF_Quant anT_Num anT_Name anT_Add anT_Sub anT_Mul anT_Neg anT_Pow
def iffRel (C : Cx) (w : World) (s : PS) (r : Option PV) (s' : PS) (a6 a7 : Value) (wr : World) : Prop :=
 (∃ v, v = a6 ∧ a7 = .bool false ∧ r = none ∧ v.oneCell' = true ∧ C.At s' wr ∧ C.O w wr) ∨
 (∃ x u z s1, a6 = .iface u z ∧ a7 = .bool true ∧ C.V wr x (.iface u z) ∧ C.At s1 wr ∧ C.O w wr ∧ Big C.T (.iffL x) s1 r s' ∧ Gd s1 ∧ s.next ≤ s1.next)
theorem iff_walk (C : Cx) (b : Bool) (s : PS) (r : Option PV) (s' : PS) (hB : Big C.T (.iff b) s r s') (hg : Gd s) (ih : IH C (mea C.T (.iff b) s)) (w : World) (h : C.At s w) :
  Calls Tryz.prog 37 #[C.p, .bool b] w (FPost C r s' w) := by
 have hn := h.hn
 have hnext := h.next
 have hlen := h.len
 have IH := h_ ih
 have hfirst : Calls Tryz.prog 67 #[C.p, .bool b] w fun e w1 => ∃ v ok, e = .returned (.tuple #[v, .bool ok]) ∧ v.oneCell' = true ∧ iffRel C w s r s' v (.bool ok) w1 := by
  cases hB with
  | iff_no h1 =>
   refine (ih _ _ (mea_same (by simp [lvl])) _ _ h1 hg (notEncl (by simp)) w h).mono ?_
   rintro e w1 ⟨v, rfl, hov, hP, hO⟩
   exact ⟨v, false, rfl, hov, .inl ⟨v, rfl, rfl, rfl, hov, hP, hO⟩⟩
  | iff_go h1 h2 =>
   refine (ih _ _ (mea_same (by simp [lvl])) _ _ h1 hg (notEncl (by simp)) w h).mono ?_
   rintro e w1 ⟨u, z, rfl, hv, hP, hO⟩
   exact ⟨_, true, rfl, hv.one, .inr ⟨_, u, z, _, rfl, rfl, hv, hP, hO, h2, h1.gd hg, h1.mono⟩⟩
 have HF := h_ hfirst
 have HHN := h_ hn
 clear hfirst hB ih h hn hg
 obtain ⟨Cb, Cpb, Cmb, CT, CA, Cn, Cc⟩ := C
 dsimp only at *
 go_enter Tryz.func37, Tryz.ntmps37
 go_wp2_with fail
 refine HF.out.mono ?_
 rintro e w1 ⟨v1, ok1, rfl, hov1, hrel1⟩
 have HR1 := h_ hrel1
 clear hrel1
 go_wp2_with fail
 go_loopw [6, 7] (fun a6 a7 wr => Hid (iffRel ⟨Cb, Cpb, Cmb, CT, CA, Cn, Cc⟩ w s r s' a6 a7 wr)) (fun _ a7 wr => msr Cn Cpb a7 wr)
 case atStart => exact HR1
 case round =>
  rcases hrel.out with ⟨v, rfl, rfl, hr, hov, hP, hO⟩ | ⟨x, u, z, s1, rfl, rfl, hv, hP, hO, hb, hg1, hs1⟩
  ·have HE := h_ (show FPost ⟨Cb, Cpb, Cmb, CT, CA, Cn, Cc⟩ r s' w (.returned (.tuple #[v, .bool false])) wr by rw [hr]; exact ⟨v, rfl, hov, hP, hO⟩)
   clear hrel hr hP hO
   go_wp2
   go_ret2
   exact HE.out
  ·have hmt := msr_true hP
   have HN1 := h_ hP.next
   have HP := h_ hP
   have HO := h_ hO
   have HV := h_ hv
   have HG1 := h_ hg1
   have HS1 := h_ hs1
   cases hb with
   | iffL_end hsee =>
    have HA := h_ (accept_no Cb Cpb Cmb Cn Cc CT CA s' ⟨#[105, 102, 102]⟩ wr hP hsee)
    clear hrel hv hP hO hg1 hs1 hsee hmt
    go_wp2_with fail
    refine HA.out.mono ?_
    rintro e w2 ⟨rfl, hb2⟩
    have HE := h_ (show FPost ⟨Cb, Cpb, Cmb, CT, CA, Cn, Cc⟩ (some x) s' w (.returned (.tuple #[.iface u z, .bool true])) w2 from ⟨u, z, rfl, HV.out.owns (Owns.of_below hb2 _), HP.out.below hb2, HO.out.trans (Owns.of_below hb2 _)⟩)
    clear hb2
    go_wp2
    go_ret2
    exact HE.out
   | iffL_bad hsee h1 =>
    have HA := h_ (accept_yes Cb Cpb Cmb Cn Cc CT CA s1 ⟨#[105, 102, 102]⟩ wr hP hsee)
    have HI := h_ (fun w2 => IH.out _ _ (mea_adv (Nat.lt_of_le_of_lt hs1 (Nat.lt_succ_self _)) (Nat.lt_of_le_of_lt hs1 (sees_lt hsee))) _ _ h1 hg1.c_adv (notEncl (by simp)) w2)
    clear hrel hv hP hO hg1 hs1 hsee h1
    go_wp2_with fail
    refine HA.out.mono ?_
    rintro e w2 ⟨rfl, hP2, hO2⟩
    have HC := h_ (HI.out w2 hP2)
    have HO2 := h_ (HO.out.trans hO2)
    clear hP2 hO2
    go_wp2_with fail
    refine HC.out.mono ?_
    rintro e w3 ⟨v3, rfl, hov3, hP3, hO3⟩
    have HRel := h_ (show iffRel ⟨Cb, Cpb, Cmb, CT, CA, Cn, Cc⟩ w s none s' (.iface u z) (.bool false) w3 from .inl ⟨_, rfl, rfl, rfl, rfl, hP3, HO2.out.trans hO3⟩)
    clear hP3 hO3
    go_wp2_with fail
    go_roundw
    case rel => exact HRel
    case measure => rw [hmt, msr_false]; have := HN1.out; show 0 < Cn + 1 - s1.next; omega
   | @iffL_go _ _ y s2 _ _ hsee h1 h2 =>
    have HA := h_ (accept_yes Cb Cpb Cmb Cn Cc CT CA s1 ⟨#[105, 102, 102]⟩ wr hP hsee)
    have HI := h_ (fun w2 => IH.out _ _ (mea_adv (Nat.lt_of_le_of_lt hs1 (Nat.lt_succ_self _)) (Nat.lt_of_le_of_lt hs1 (sees_lt hsee))) _ _ h1 hg1.c_adv (notEncl (by simp)) w2)
    have HB1 := h_ h1
    have HB2 := h_ h2
    clear hrel hv hP hO hg1 hs1 hsee h1 h2
    go_wp2_with fail
    refine HA.out.mono ?_
    rintro e w2 ⟨rfl, hP2, hO2⟩
    have HC := h_ (HI.out w2 hP2)
    have HV2 := h_ (HV.out.owns hO2)
    have HO2 := h_ (HO.out.trans hO2)
    clear hP2 hO2
    go_wp2_with fail
    refine HC.out.mono ?_
    rintro e w3 ⟨u3, z3, rfl, hv3, hP3, hO3⟩
    have HP3 := h_ hP3
    have HV3 := h_ hv3
    have HVx := h_ (HV2.out.owns hO3)
    have HO3 := h_ (HO2.out.trans hO3)
    have HF1 := h_ (asFormula_any _ _ _ w3 HVx.out)
    have HF2 := h_ (asFormula_any _ _ _ w3 HV3.out)
    have HM1 := h_ (msr_true hP3)
    clear hP3 hO3 hv3
    go_wp2_with fail
    refine HF1.out.mono ?_
    rintro e w4 ⟨u4, z4, rfl, rfl, hv4⟩
    have HV4 := h_ hv4
    clear hv4
    go_wp2_with fail
    refine HF2.out.mono ?_
    rintro e w5 ⟨u5, z5, rfl, rfl, hv5⟩
    have HRel := h_ (show iffRel ⟨Cb, Cpb, Cmb, CT, CA, Cn, Cc⟩ w s r s' (.iface tIff (.agg #[.iface u4 z4, .iface u5 z5])) (.bool true) w3 from .inr ⟨.fo (.iff (asF x) (asF y)), _, _, s2, rfl, rfl, ⟨⟨_, _, rfl, HV4.out.1, hv5.1⟩, by simp, HV4.out.2.2, hv5.2.2⟩, HP3.out, HO3.out, HB2.out, HB1.out.gd HG1.out.c_adv, Nat.le_trans HS1.out (Nat.le_trans (Nat.le_succ _) HB1.out.mono)⟩)
    clear hv5
    go_wp2
    go_roundw
    case rel => exact HRel
    case measure =>
     have e1 := HM1.out
     have e2 := HN1.out
     have e3 : s1.next + 1 ≤ s2.next := HB1.out.mono
     show msr Cn Cpb (.bool true) w3 < msr Cn Cpb (.bool true) wr
     rw [hmt]
     omega
def orRel (C : Cx) (w : World) (s : PS) (r : Option PV) (s' : PS) (a6 a7 : Value) (wr : World) : Prop :=
 (∃ v, v = a6 ∧ a7 = .bool false ∧ r = none ∧ v.oneCell' = true ∧ C.At s' wr ∧ C.O w wr) ∨
 (∃ x u z s1, a6 = .iface u z ∧ a7 = .bool true ∧ C.V wr x (.iface u z) ∧ C.At s1 wr ∧ C.O w wr ∧ Big C.T (.orL x) s1 r s' ∧ Gd s1 ∧ s.next ≤ s1.next)
theorem or_walk (C : Cx) (b : Bool) (s : PS) (r : Option PV) (s' : PS) (hB : Big C.T (.or b) s r s') (hg : Gd s) (ih : IH C (mea C.T (.or b) s)) (w : World) (h : C.At s w) :
  Calls Tryz.prog 84 #[C.p, .bool b] w (FPost C r s' w) := by
 have hn := h.hn
 have hnext := h.next
 have hlen := h.len
 have IH := h_ ih
 have hfirst : Calls Tryz.prog 94 #[C.p, .bool b] w fun e w1 => ∃ v ok, e = .returned (.tuple #[v, .bool ok]) ∧ v.oneCell' = true ∧ orRel C w s r s' v (.bool ok) w1 := by
  cases hB with
  | or_no h1 =>
   refine (ih _ _ (mea_same (by simp [lvl])) _ _ h1 hg (notEncl (by simp)) w h).mono ?_
   rintro e w1 ⟨v, rfl, hov, hP, hO⟩
   exact ⟨v, false, rfl, hov, .inl ⟨v, rfl, rfl, rfl, hov, hP, hO⟩⟩
  | or_go h1 h2 =>
   refine (ih _ _ (mea_same (by simp [lvl])) _ _ h1 hg (notEncl (by simp)) w h).mono ?_
   rintro e w1 ⟨u, z, rfl, hv, hP, hO⟩
   exact ⟨_, true, rfl, hv.one, .inr ⟨_, u, z, _, rfl, rfl, hv, hP, hO, h2, h1.gd hg, h1.mono⟩⟩
 have HF := h_ hfirst
 have HHN := h_ hn
 clear hfirst hB ih h hn hg
 obtain ⟨Cb, Cpb, Cmb, CT, CA, Cn, Cc⟩ := C
 dsimp only at *
 go_enter Tryz.func84, Tryz.ntmps84
 go_wp2_with fail
 refine HF.out.mono ?_
 rintro e w1 ⟨v1, ok1, rfl, hov1, hrel1⟩
 have HR1 := h_ hrel1
 clear hrel1
 go_wp2_with fail
 go_loopw [6, 7] (fun a6 a7 wr => Hid (orRel ⟨Cb, Cpb, Cmb, CT, CA, Cn, Cc⟩ w s r s' a6 a7 wr)) (fun _ a7 wr => msr Cn Cpb a7 wr)
 case atStart => exact HR1
 case round =>
  rcases hrel.out with ⟨v, rfl, rfl, hr, hov, hP, hO⟩ | ⟨x, u, z, s1, rfl, rfl, hv, hP, hO, hb, hg1, hs1⟩
  ·have HE := h_ (show FPost ⟨Cb, Cpb, Cmb, CT, CA, Cn, Cc⟩ r s' w (.returned (.tuple #[v, .bool false])) wr by rw [hr]; exact ⟨v, rfl, hov, hP, hO⟩)
   clear hrel hr hP hO
   go_wp2
   go_ret2
   exact HE.out
  ·have hmt := msr_true hP
   have HN1 := h_ hP.next
   have HP := h_ hP
   have HO := h_ hO
   have HV := h_ hv
   have HG1 := h_ hg1
   have HS1 := h_ hs1
   cases hb with
   | orL_end hsee =>
    have HA := h_ (accept_no Cb Cpb Cmb Cn Cc CT CA s' ⟨#[111, 114]⟩ wr hP hsee)
    clear hrel hv hP hO hg1 hs1 hsee hmt
    go_wp2_with fail
    refine HA.out.mono ?_
    rintro e w2 ⟨rfl, hb2⟩
    have HE := h_ (show FPost ⟨Cb, Cpb, Cmb, CT, CA, Cn, Cc⟩ (some x) s' w (.returned (.tuple #[.iface u z, .bool true])) w2 from ⟨u, z, rfl, HV.out.owns (Owns.of_below hb2 _), HP.out.below hb2, HO.out.trans (Owns.of_below hb2 _)⟩)
    clear hb2
    go_wp2
    go_ret2
    exact HE.out
   | orL_bad hsee h1 =>
    have HA := h_ (accept_yes Cb Cpb Cmb Cn Cc CT CA s1 ⟨#[111, 114]⟩ wr hP hsee)
    have HI := h_ (fun w2 => IH.out _ _ (mea_adv (Nat.lt_of_le_of_lt hs1 (Nat.lt_succ_self _)) (Nat.lt_of_le_of_lt hs1 (sees_lt hsee))) _ _ h1 hg1.c_adv (notEncl (by simp)) w2)
    clear hrel hv hP hO hg1 hs1 hsee h1
    go_wp2_with fail
    refine HA.out.mono ?_
    rintro e w2 ⟨rfl, hP2, hO2⟩
    have HC := h_ (HI.out w2 hP2)
    have HO2 := h_ (HO.out.trans hO2)
    clear hP2 hO2
    go_wp2_with fail
    refine HC.out.mono ?_
    rintro e w3 ⟨v3, rfl, hov3, hP3, hO3⟩
    have HRel := h_ (show orRel ⟨Cb, Cpb, Cmb, CT, CA, Cn, Cc⟩ w s none s' (.iface u z) (.bool false) w3 from .inl ⟨_, rfl, rfl, rfl, rfl, hP3, HO2.out.trans hO3⟩)
    clear hP3 hO3
    go_wp2_with fail
    go_roundw
    case rel => exact HRel
    case measure => rw [hmt, msr_false]; have := HN1.out; show 0 < Cn + 1 - s1.next; omega
   | @orL_go _ _ y s2 _ _ hsee h1 h2 =>
    have HA := h_ (accept_yes Cb Cpb Cmb Cn Cc CT CA s1 ⟨#[111, 114]⟩ wr hP hsee)
    have HI := h_ (fun w2 => IH.out _ _ (mea_adv (Nat.lt_of_le_of_lt hs1 (Nat.lt_succ_self _)) (Nat.lt_of_le_of_lt hs1 (sees_lt hsee))) _ _ h1 hg1.c_adv (notEncl (by simp)) w2)
    have HB1 := h_ h1
    have HB2 := h_ h2
    clear hrel hv hP hO hg1 hs1 hsee h1 h2
    go_wp2_with fail
    refine HA.out.mono ?_
    rintro e w2 ⟨rfl, hP2, hO2⟩
    have HC := h_ (HI.out w2 hP2)
    have HV2 := h_ (HV.out.owns hO2)
    have HO2 := h_ (HO.out.trans hO2)
    clear hP2 hO2
    go_wp2_with fail
    refine HC.out.mono ?_
    rintro e w3 ⟨u3, z3, rfl, hv3, hP3, hO3⟩
    have HP3 := h_ hP3
    have HV3 := h_ hv3
    have HVx := h_ (HV2.out.owns hO3)
    have HO3 := h_ (HO2.out.trans hO3)
    have HF1 := h_ (asFormula_any _ _ _ w3 HVx.out)
    have HF2 := h_ (asFormula_any _ _ _ w3 HV3.out)
    have HM1 := h_ (msr_true hP3)
    clear hP3 hO3 hv3
    go_wp2_with fail
    refine HF1.out.mono ?_
    rintro e w4 ⟨u4, z4, rfl, rfl, hv4⟩
    have HV4 := h_ hv4
    clear hv4
    go_wp2_with fail
    refine HF2.out.mono ?_
    rintro e w5 ⟨u5, z5, rfl, rfl, hv5⟩
    have HRel := h_ (show orRel ⟨Cb, Cpb, Cmb, CT, CA, Cn, Cc⟩ w s r s' (.iface tOr (.agg #[.iface u4 z4, .iface u5 z5])) (.bool true) w3 from .inr ⟨.fo (.or (asF x) (asF y)), _, _, s2, rfl, rfl, ⟨⟨_, _, rfl, HV4.out.1, hv5.1⟩, by simp, HV4.out.2.2, hv5.2.2⟩, HP3.out, HO3.out, HB2.out, HB1.out.gd HG1.out.c_adv, Nat.le_trans HS1.out (Nat.le_trans (Nat.le_succ _) HB1.out.mono)⟩)
    clear hv5
    go_wp2
    go_roundw
    case rel => exact HRel
    case measure =>
     have e1 := HM1.out
     have e2 := HN1.out
     have e3 : s1.next + 1 ≤ s2.next := HB1.out.mono
     show msr Cn Cpb (.bool true) w3 < msr Cn Cpb (.bool true) wr
     rw [hmt]
     omega
def andRel (C : Cx) (w : World) (s : PS) (r : Option PV) (s' : PS) (a6 a7 : Value) (wr : World) : Prop :=
 (∃ v, v = a6 ∧ a7 = .bool false ∧ r = none ∧ v.oneCell' = true ∧ C.At s' wr ∧ C.O w wr) ∨
 (∃ x u z s1, a6 = .iface u z ∧ a7 = .bool true ∧ C.V wr x (.iface u z) ∧ C.At s1 wr ∧ C.O w wr ∧ Big C.T (.andL x) s1 r s' ∧ Gd s1 ∧ s.next ≤ s1.next)
theorem and_walk (C : Cx) (b : Bool) (s : PS) (r : Option PV) (s' : PS) (hB : Big C.T (.and b) s r s') (hg : Gd s) (ih : IH C (mea C.T (.and b) s)) (w : World) (h : C.At s w) :
  Calls Tryz.prog 94 #[C.p, .bool b] w (FPost C r s' w) := by
 have hn := h.hn
 have hnext := h.next
 have hlen := h.len
 have IH := h_ ih
 have hfirst : Calls Tryz.prog 100 #[C.p, .bool b] w fun e w1 => ∃ v ok, e = .returned (.tuple #[v, .bool ok]) ∧ v.oneCell' = true ∧ andRel C w s r s' v (.bool ok) w1 := by
  cases hB with
  | and_no h1 =>
   refine (ih _ _ (mea_same (by simp [lvl])) _ _ h1 hg (notEncl (by simp)) w h).mono ?_
   rintro e w1 ⟨v, rfl, hov, hP, hO⟩
   exact ⟨v, false, rfl, hov, .inl ⟨v, rfl, rfl, rfl, hov, hP, hO⟩⟩
  | and_go h1 h2 =>
   refine (ih _ _ (mea_same (by simp [lvl])) _ _ h1 hg (notEncl (by simp)) w h).mono ?_
   rintro e w1 ⟨u, z, rfl, hv, hP, hO⟩
   exact ⟨_, true, rfl, hv.one, .inr ⟨_, u, z, _, rfl, rfl, hv, hP, hO, h2, h1.gd hg, h1.mono⟩⟩
 have HF := h_ hfirst
 have HHN := h_ hn
 clear hfirst hB ih h hn hg
 obtain ⟨Cb, Cpb, Cmb, CT, CA, Cn, Cc⟩ := C
 dsimp only at *
 go_enter Tryz.func94, Tryz.ntmps94
 go_wp2_with fail
 refine HF.out.mono ?_
 rintro e w1 ⟨v1, ok1, rfl, hov1, hrel1⟩
 have HR1 := h_ hrel1
 clear hrel1
 go_wp2_with fail
 go_loopw [6, 7] (fun a6 a7 wr => Hid (andRel ⟨Cb, Cpb, Cmb, CT, CA, Cn, Cc⟩ w s r s' a6 a7 wr)) (fun _ a7 wr => msr Cn Cpb a7 wr)
 case atStart => exact HR1
 case round =>
  rcases hrel.out with ⟨v, rfl, rfl, hr, hov, hP, hO⟩ | ⟨x, u, z, s1, rfl, rfl, hv, hP, hO, hb, hg1, hs1⟩
  ·have HE := h_ (show FPost ⟨Cb, Cpb, Cmb, CT, CA, Cn, Cc⟩ r s' w (.returned (.tuple #[v, .bool false])) wr by rw [hr]; exact ⟨v, rfl, hov, hP, hO⟩)
   clear hrel hr hP hO
   go_wp2
   go_ret2
   exact HE.out
  ·have hmt := msr_true hP
   have HN1 := h_ hP.next
   have HP := h_ hP
   have HO := h_ hO
   have HV := h_ hv
   have HG1 := h_ hg1
   have HS1 := h_ hs1
   cases hb with
   | andL_end hsee =>
    have HA := h_ (accept_no Cb Cpb Cmb Cn Cc CT CA s' ⟨#[97, 110, 100]⟩ wr hP hsee)
    clear hrel hv hP hO hg1 hs1 hsee hmt
    go_wp2_with fail
    refine HA.out.mono ?_
    rintro e w2 ⟨rfl, hb2⟩
    have HE := h_ (show FPost ⟨Cb, Cpb, Cmb, CT, CA, Cn, Cc⟩ (some x) s' w (.returned (.tuple #[.iface u z, .bool true])) w2 from ⟨u, z, rfl, HV.out.owns (Owns.of_below hb2 _), HP.out.below hb2, HO.out.trans (Owns.of_below hb2 _)⟩)
    clear hb2
    go_wp2
    go_ret2
    exact HE.out
   | andL_bad hsee h1 =>
    have HA := h_ (accept_yes Cb Cpb Cmb Cn Cc CT CA s1 ⟨#[97, 110, 100]⟩ wr hP hsee)
    have HI := h_ (fun w2 => IH.out _ _ (mea_adv (Nat.lt_of_le_of_lt hs1 (Nat.lt_succ_self _)) (Nat.lt_of_le_of_lt hs1 (sees_lt hsee))) _ _ h1 hg1.c_adv (notEncl (by simp)) w2)
    clear hrel hv hP hO hg1 hs1 hsee h1
    go_wp2_with fail
    refine HA.out.mono ?_
    rintro e w2 ⟨rfl, hP2, hO2⟩
    have HC := h_ (HI.out w2 hP2)
    have HO2 := h_ (HO.out.trans hO2)
    clear hP2 hO2
    go_wp2_with fail
    refine HC.out.mono ?_
    rintro e w3 ⟨v3, rfl, hov3, hP3, hO3⟩
    have HRel := h_ (show andRel ⟨Cb, Cpb, Cmb, CT, CA, Cn, Cc⟩ w s none s' (.iface u z) (.bool false) w3 from .inl ⟨_, rfl, rfl, rfl, rfl, hP3, HO2.out.trans hO3⟩)
    clear hP3 hO3
    go_wp2_with fail
    go_roundw
    case rel => exact HRel
    case measure => rw [hmt, msr_false]; have := HN1.out; show 0 < Cn + 1 - s1.next; omega
   | @andL_go _ _ y s2 _ _ hsee h1 h2 =>
    have HA := h_ (accept_yes Cb Cpb Cmb Cn Cc CT CA s1 ⟨#[97, 110, 100]⟩ wr hP hsee)
    have HI := h_ (fun w2 => IH.out _ _ (mea_adv (Nat.lt_of_le_of_lt hs1 (Nat.lt_succ_self _)) (Nat.lt_of_le_of_lt hs1 (sees_lt hsee))) _ _ h1 hg1.c_adv (notEncl (by simp)) w2)
    have HB1 := h_ h1
    have HB2 := h_ h2
    clear hrel hv hP hO hg1 hs1 hsee h1 h2
    go_wp2_with fail
    refine HA.out.mono ?_
    rintro e w2 ⟨rfl, hP2, hO2⟩
    have HC := h_ (HI.out w2 hP2)
    have HV2 := h_ (HV.out.owns hO2)
    have HO2 := h_ (HO.out.trans hO2)
    clear hP2 hO2
    go_wp2_with fail
    refine HC.out.mono ?_
    rintro e w3 ⟨u3, z3, rfl, hv3, hP3, hO3⟩
    have HP3 := h_ hP3
    have HV3 := h_ hv3
    have HVx := h_ (HV2.out.owns hO3)
    have HO3 := h_ (HO2.out.trans hO3)
    have HF1 := h_ (asFormula_any _ _ _ w3 HVx.out)
    have HF2 := h_ (asFormula_any _ _ _ w3 HV3.out)
    have HM1 := h_ (msr_true hP3)
    clear hP3 hO3 hv3
    go_wp2_with fail
    refine HF1.out.mono ?_
    rintro e w4 ⟨u4, z4, rfl, rfl, hv4⟩
    have HV4 := h_ hv4
    clear hv4
    go_wp2_with fail
    refine HF2.out.mono ?_
    rintro e w5 ⟨u5, z5, rfl, rfl, hv5⟩
    have HRel := h_ (show andRel ⟨Cb, Cpb, Cmb, CT, CA, Cn, Cc⟩ w s r s' (.iface tAnd (.agg #[.iface u4 z4, .iface u5 z5])) (.bool true) w3 from .inr ⟨.fo (.and (asF x) (asF y)), _, _, s2, rfl, rfl, ⟨⟨_, _, rfl, HV4.out.1, hv5.1⟩, by simp, HV4.out.2.2, hv5.2.2⟩, HP3.out, HO3.out, HB2.out, HB1.out.gd HG1.out.c_adv, Nat.le_trans HS1.out (Nat.le_trans (Nat.le_succ _) HB1.out.mono)⟩)
    clear hv5
    go_wp2
    go_roundw
    case rel => exact HRel
    case measure =>
     have e1 := HM1.out
     have e2 := HN1.out
     have e3 : s1.next + 1 ≤ s2.next := HB1.out.mono
     show msr Cn Cpb (.bool true) w3 < msr Cn Cpb (.bool true) wr
     rw [hmt]
     omega
end Pa
end Go.Proofs.YteneobpacobpdaaGreatDoor
namespace Go.Proofs.YteneobpacobpdaaGreatDoor
open Go.RowKit
namespace Pa
open Lx Fm Dc
attribute [local go_sem] run_store fieldTok0 fieldTok2
attribute [local go_sem] anF_Num anF_Name anF_Add anF_Sub anF_Mul anF_Neg anF_Pow anF_Truth anF_Atom anF_Not anF_And anF_Or anF_Implies anF_Iff anF_Quant anT_Num anT_Name anT_Add anT_Sub anT_Mul anT_Neg anT_Pow
theorem opn_depth (T : List Tok) (s : PS) : (opn T s).depth = s.depth + 1 := by unfold opn adv; simp [inc_depth]
theorem nm1_depth (T : List Tok) (s : PS) : (nm1 T s).depth = s.depth := (nm1_eq T s).2.1
theorem nam_depth (T : List Tok) (s : PS) : (nam T s).depth = s.depth := by unfold nam adv; exact nm1_depth T s
theorem relS_depth (T : List Tok) (s : PS) : (relS T s).depth = s.depth := by unfold relS adv rel1; split <;> simp [exc_depth]
theorem meas_depth (s : PS) (t : Tok) (x : Tm) (l : List Tm) : (meas s t x l).depth = s.depth := by unfold meas; split <;> simp [exc_depth]
theorem powS_depth (T : List Tok) (x : Tm) (s : PS) : (powS T x s).depth = s.depth := by unfold powS; rw [meas_depth]; split <;> simp [exc_depth, adv]
theorem adv_depth (s : PS) : (adv s).depth = s.depth := rfl
theorem dn_depth (s : PS) : (dn s).depth = s.depth - 1 := rfl
theorem Big.depth {T : List Tok} {c : PC} {s s' : PS} {r : Option PV} (h : Big T c s r s') : s'.depth = s.depth := by
 induction h <;> (try simp only [opn_depth, nam_depth, inc_depth, relS_depth, meas_depth, powS_depth, adv_depth, dn_depth] at *) <;> omega
theorem PAt.down {B pb mb n c : Nat} {T : List Tok} {A : Option Addr} {s : PS} {w : World} (h : PAt B pb mb T A n c s w) (hd : 0 < s.depth) : PAt B pb mb T A n c (dn s) (w.setCell ⟨pb, 2, none⟩ (.int .i64 ((s.depth : Int) - 1))) :=
 h.set (s' := dn s) 2 _ (by
   have e : (s.depth : Int) - 1 = ((s.depth - 1 : Nat) : Int) := by omega
   rw [e]; rfl) rfl h.next (by have := h.depth; show s.depth - 1 ≤ s.next + 1; omega) h.rels h.nms
theorem implies_walk (C : Cx) (b : Bool) (s : PS) (r : Option PV) (s' : PS) (hB : Big C.T (.imp b) s r s') (hg : Gd s) (htok : TokOk C.T) (ih : IH C (mea C.T (.imp b) s)) (w : World) (h : C.At s w) :
  Calls Tryz.prog 67 #[C.p, .bool b] w (FPost C r s' w) := by
 have hn := h.hn
 have hnext := h.next
 have hlen := h.len
 obtain ⟨Cb, Cpb, Cmb, CT, CA, Cn, Cc⟩ := C
 dsimp only at *
 cases hB with
 | imp_no h1 =>
  have HC := h_ (ih _ _ (mea_same (by simp [lvl])) _ _ h1 hg (notEncl (by simp)) w h)
  clear h1 ih hg h
  go_enter Tryz.func67, Tryz.ntmps67
  go_wp2_with fail
  refine HC.out.mono ?_
  rintro e w1 ⟨v, rfl, hov, hP, hO⟩
  have HE := h_ (show FPost ⟨Cb, Cpb, Cmb, CT, CA, Cn, Cc⟩ none s' w (.returned (.tuple #[v, .bool false])) w1 from ⟨v, rfl, hov, hP, hO⟩)
  clear hP hO
  go_wp2
  go_ret2
  exact HE.out
 | imp_one h1 hsee =>
  rename_i x
  have HC := h_ (ih _ _ (mea_same (by simp [lvl])) _ _ h1 hg (notEncl (by simp)) w h)
  have HS := h_ (fun w1 h2 => accept_no Cb Cpb Cmb Cn Cc CT CA s' ⟨#[105, 109, 112, 108, 105, 101, 115]⟩ w1 h2 hsee)
  clear h1 ih hg h hsee
  go_enter Tryz.func67, Tryz.ntmps67
  go_wp2_with fail
  refine HC.out.mono ?_
  rintro e w1 ⟨u, z, rfl, hv, hP, hO⟩
  have HA := h_ (HS.out w1 hP)
  have HP := h_ hP
  have HV := h_ hv
  have HO := h_ hO
  clear hP hv hO
  go_wp2_with fail
  refine HA.out.mono ?_
  rintro e w2 ⟨rfl, hb2⟩
  have HE := h_ (show FPost ⟨Cb, Cpb, Cmb, CT, CA, Cn, Cc⟩ (some x) s' w (.returned (.tuple #[.iface u z, .bool true])) w2 from ⟨u, z, rfl, HV.out.owns (Owns.of_below hb2 _), HP.out.below hb2, HO.out.trans (Owns.of_below hb2 _)⟩)
  clear hb2
  go_wp2
  go_ret2
  exact HE.out
 | @imp_bad _ _ x s1 _ h1 hsee h2 =>
  have HC := h_ (ih _ _ (mea_same (by simp [lvl])) _ _ h1 hg (notEncl (by simp)) w h)
  have HS := h_ (fun w1 h2 => accept_yes Cb Cpb Cmb Cn Cc CT CA s1 ⟨#[105, 109, 112, 108, 105, 101, 115]⟩ w1 h2 hsee)
  have HI := h_ (fun w2 => ih _ _ (mea_adv (Nat.lt_of_le_of_lt h1.mono (Nat.lt_succ_self _)) (Nat.lt_of_le_of_lt h1.mono (sees_lt hsee))) _ _ h2 (h1.gd hg).c_adv (notEncl (by simp)) w2)
  clear h1 ih hg h hsee h2
  go_enter Tryz.func67, Tryz.ntmps67
  go_wp2_with fail
  refine HC.out.mono ?_
  rintro e w1 ⟨u, z, rfl, hv, hP, hO⟩
  have HA := h_ (HS.out w1 hP)
  have HO := h_ hO
  clear hP hv hO
  go_wp2_with fail
  refine HA.out.mono ?_
  rintro e w2 ⟨rfl, hP2, hO2⟩
  have HC2 := h_ (HI.out w2 hP2)
  have HO2 := h_ (HO.out.trans hO2)
  clear hP2 hO2
  go_wp2_with fail
  refine HC2.out.mono ?_
  rintro e w3 ⟨v3, rfl, hov3, hP3, hO3⟩
  have HE := h_ (show FPost ⟨Cb, Cpb, Cmb, CT, CA, Cn, Cc⟩ none s' w (.returned (.tuple #[.nilIface, .bool false])) w3 from ⟨_, rfl, rfl, hP3, HO2.out.trans hO3⟩)
  clear hP3 hO3
  go_wp2
  go_ret2
  exact HE.out
 | @imp_two _ _ x s1 y _ h1 hsee h2 =>
  have HC := h_ (ih _ _ (mea_same (by simp [lvl])) _ _ h1 hg (notEncl (by simp)) w h)
  have HS := h_ (fun w1 h2 => accept_yes Cb Cpb Cmb Cn Cc CT CA s1 ⟨#[105, 109, 112, 108, 105, 101, 115]⟩ w1 h2 hsee)
  have HI := h_ (fun w2 => ih _ _ (mea_adv (Nat.lt_of_le_of_lt h1.mono (Nat.lt_succ_self _)) (Nat.lt_of_le_of_lt h1.mono (sees_lt hsee))) _ _ h2 (h1.gd hg).c_adv (notEncl (by simp)) w2)
  clear h1 ih hg h hsee h2
  go_enter Tryz.func67, Tryz.ntmps67
  go_wp2_with fail
  refine HC.out.mono ?_
  rintro e w1 ⟨u, z, rfl, hv, hP, hO⟩
  have HA := h_ (HS.out w1 hP)
  have HO := h_ hO
  have HV := h_ hv
  clear hP hv hO
  go_wp2_with fail
  refine HA.out.mono ?_
  rintro e w2 ⟨rfl, hP2, hO2⟩
  have HC2 := h_ (HI.out w2 hP2)
  have HO2 := h_ (HO.out.trans hO2)
  have HV2 := h_ (HV.out.owns hO2)
  clear hP2 hO2
  go_wp2_with fail
  refine HC2.out.mono ?_
  rintro e w3 ⟨u3, z3, rfl, hv3, hP3, hO3⟩
  have HP3 := h_ hP3
  have HVx := h_ (HV2.out.owns hO3)
  have HO3 := h_ (HO2.out.trans hO3)
  have HF1 := h_ (asFormula_any _ _ _ w3 HVx.out)
  have HF2 := h_ (asFormula_any _ _ _ w3 hv3)
  clear hP3 hO3 hv3
  go_wp2_with fail
  refine HF1.out.mono ?_
  rintro e w4 ⟨u4, z4, rfl, rfl, hv4⟩
  have HV4 := h_ hv4
  clear hv4
  go_wp2_with fail
  refine HF2.out.mono ?_
  rintro e w5 ⟨u5, z5, rfl, rfl, hv5⟩
  have HE := h_ (show FPost ⟨Cb, Cpb, Cmb, CT, CA, Cn, Cc⟩ (some (.fo (.implies (asF x) (asF y)))) s' w (.returned (.tuple #[.iface tImplies (.agg #[.iface u4 z4, .iface u5 z5]), .bool true])) w3 from ⟨_, _, rfl, ⟨⟨_, _, rfl, HV4.out.1, hv5.1⟩, by simp, HV4.out.2.2, hv5.2.2⟩, HP3.out, HO3.out⟩)
  clear hv5
  go_wp2
  go_ret2
  exact HE.out
theorem enclosed_walk (C : Cx) (s : PS) (r : Option PV) (s' : PS) (hB : Big C.T .encl s r s') (hg : Gd s) (hok : Ok C.T .encl s) (htok : TokOk C.T) (ih : IH C (mea C.T .encl s)) (w : World) (h : C.At s w) :
  Calls Tryz.prog 116 #[C.p] w (FPost C r s' w) := by
 have hn := h.hn
 have hnext := h.next
 have hlen := h.len
 obtain ⟨Cb, Cpb, Cmb, CT, CA, Cn, Cc⟩ := C
 dsimp only at *
 cases hB with
 | @en_no _ s1 h1 =>
  have hlt := sees_lt (hok rfl)
  rw [← hn] at hlt
  have HOp := h_ (open_any Cb Cpb Cmb Cn Cc CT CA s w h hg hlt)
  have HI := h_ (fun w2 => ih _ _ (mea_adv (by rw [opn_next]; exact Nat.lt_succ_self _) (sees_lt (hok rfl))) _ _ h1 hg.c_opn (notEncl (by simp)) w2)
  have hd : 0 < s1.depth := by rw [h1.depth, opn_depth]; omega
  clear h1 ih hg h hok
  go_enter Tryz.func116, Tryz.ntmps116
  go_wp2_with fail
  refine HOp.out.mono ?_
  rintro e w1 ⟨rfl, hP1, hO1⟩
  have HC := h_ (HI.out w1 hP1)
  have HO1 := h_ hO1
  clear hP1 hO1
  go_wp2_with fail
  refine HC.out.mono ?_
  rintro e w2 ⟨v, rfl, hov, hP2, hO2⟩
  obtain ⟨c0, c1, c2, c3, c4, c5, c6⟩ := hP2.cells
  have fz2 := hP2.fz
  have hdl : s1.depth ≤ 4001 := by have := hP2.depth; have := hP2.next; dsimp only at *; omega
  have HP2 := h_ (hP2.down hd)
  have HO2 := h_ ((HO1.out.trans hO2).trans (owns_set w2 ⟨Cpb, 2, none⟩ (.int .i64 ((s1.depth : Int) - 1)) (.inl rfl)))
  clear hP2 hO2
  go_wp2_with fail
  have HE := h_ (show FPost ⟨Cb, Cpb, Cmb, CT, CA, Cn, Cc⟩ none (dn s1) w (.returned (.tuple #[.nilIface, .bool false])) (w2.setCell ⟨Cpb, 2, none⟩ (.int .i64 ((s1.depth : Int) - 1))) from ⟨_, rfl, rfl, HP2.out, HO2.out⟩)
  go_wp2
  go_ret2
  exact HE.out
 | @en_bad _ x s1 h1 hsee =>
  have hlt := sees_lt (hok rfl)
  rw [← hn] at hlt
  have HOp := h_ (open_any Cb Cpb Cmb Cn Cc CT CA s w h hg hlt)
  have HI := h_ (fun w2 => ih _ _ (mea_adv (by rw [opn_next]; exact Nat.lt_succ_self _) (sees_lt (hok rfl))) _ _ h1 hg.c_opn (notEncl (by simp)) w2)
  have hd : 0 < s1.depth := by rw [h1.depth, opn_depth]; omega
  have HSee := h_ hsee
  clear h1 ih hg h hok hsee
  go_enter Tryz.func116, Tryz.ntmps116
  go_wp2_with fail
  refine HOp.out.mono ?_
  rintro e w1 ⟨rfl, hP1, hO1⟩
  have HC := h_ (HI.out w1 hP1)
  have HO1 := h_ hO1
  clear hP1 hO1
  go_wp2_with fail
  refine HC.out.mono ?_
  rintro e w2 ⟨u, z, rfl, hv, hP2, hO2⟩
  obtain ⟨c0, c1, c2, c3, c4, c5, c6⟩ := hP2.cells
  have fz2 := hP2.fz
  have hdl : s1.depth ≤ 4001 := by have := hP2.depth; have := hP2.next; dsimp only at *; omega
  have HP2 := h_ (hP2.down hd)
  have HO2 := h_ ((HO1.out.trans hO2).trans (owns_set w2 ⟨Cpb, 2, none⟩ (.int .i64 ((s1.depth : Int) - 1)) (.inl rfl)))
  have HA := h_ (accept_no Cb Cpb Cmb Cn Cc CT CA (dn s1) ⟨#[41]⟩ _ HP2.out HSee.out)
  clear hP2 hO2 hv
  go_wp2_with fail
  refine HA.out.mono ?_
  rintro e w3 ⟨rfl, hb3⟩
  have HE := h_ (show FPost ⟨Cb, Cpb, Cmb, CT, CA, Cn, Cc⟩ none (dn s1) w (.returned (.tuple #[.nilIface, .bool false])) w3 from ⟨_, rfl, rfl, HP2.out.below hb3, HO2.out.trans (Owns.of_below hb3 _)⟩)
  clear hb3
  go_wp2
  go_ret2
  exact HE.out
 | @en_ok _ x s1 h1 hsee =>
  have hlt := sees_lt (hok rfl)
  rw [← hn] at hlt
  have HOp := h_ (open_any Cb Cpb Cmb Cn Cc CT CA s w h hg hlt)
  have HI := h_ (fun w2 => ih _ _ (mea_adv (by rw [opn_next]; exact Nat.lt_succ_self _) (sees_lt (hok rfl))) _ _ h1 hg.c_opn (notEncl (by simp)) w2)
  have hd : 0 < s1.depth := by rw [h1.depth, opn_depth]; omega
  have HSee := h_ hsee
  clear h1 ih hg h hok hsee
  go_enter Tryz.func116, Tryz.ntmps116
  go_wp2_with fail
  refine HOp.out.mono ?_
  rintro e w1 ⟨rfl, hP1, hO1⟩
  have HC := h_ (HI.out w1 hP1)
  have HO1 := h_ hO1
  clear hP1 hO1
  go_wp2_with fail
  refine HC.out.mono ?_
  rintro e w2 ⟨u, z, rfl, hv, hP2, hO2⟩
  obtain ⟨c0, c1, c2, c3, c4, c5, c6⟩ := hP2.cells
  have fz2 := hP2.fz
  have hdl : s1.depth ≤ 4001 := by have := hP2.depth; have := hP2.next; dsimp only at *; omega
  have HP2 := h_ (hP2.down hd)
  have HO2 := h_ ((HO1.out.trans hO2).trans (owns_set w2 ⟨Cpb, 2, none⟩ (.int .i64 ((s1.depth : Int) - 1)) (.inl rfl)))
  have HA := h_ (accept_yes Cb Cpb Cmb Cn Cc CT CA (dn s1) ⟨#[41]⟩ _ HP2.out HSee.out)
  have HV := h_ (hv.owns (owns_set w2 ⟨Cpb, 2, none⟩ (.int .i64 ((s1.depth : Int) - 1)) (.inl rfl)))
  clear hP2 hO2 hv
  go_wp2_with fail
  refine HA.out.mono ?_
  rintro e w3 ⟨rfl, hP3, hO3⟩
  have HE := h_ (show FPost ⟨Cb, Cpb, Cmb, CT, CA, Cn, Cc⟩ (some x) (adv (dn s1)) w (.returned (.tuple #[.iface u z, .bool true])) w3 from ⟨_, _, rfl, HV.out.owns hO3, hP3, HO2.out.trans hO3⟩)
  clear hP3 hO3
  go_wp2
  go_ret2
  exact HE.out
end Pa
end Go.Proofs.YteneobpacobpdaaGreatDoor
namespace Go.Proofs.YteneobpacobpdaaGreatDoor
open Go.RowKit
namespace Pa
open Lx Fm Dc
attribute [local go_sem] run_store fieldTok0 fieldTok2
attribute [local go_sem] anF_Num anF_Name anF_Add anF_Sub anF_Mul anF_Neg anF_Pow anF_Truth anF_Atom anF_Not anF_And anF_Or anF_Implies anF_Iff anF_Quant anT_Num anT_Name anT_Add anT_Sub anT_Mul anT_Neg anT_Pow
theorem FPost.tup {C : Cx} {r : Option PV} {s' : PS} {w w' : World} {e : Ending} (h : FPost C r s' w e w') : ∃ v ok, e = .returned (.tuple #[v, .bool ok]) ∧ v.oneCell' = true ∧ FPost C r s' w (.returned (.tuple #[v, .bool ok])) w' := by
 cases r with
 | none => obtain ⟨v, rfl, hov, hP, hO⟩ := h; exact ⟨v, false, rfl, hov, v, rfl, hov, hP, hO⟩
 | some x => obtain ⟨u, z, rfl, hv, hP, hO⟩ := h; exact ⟨_, true, rfl, rfl, u, z, rfl, hv, hP, hO⟩
theorem FPost.after {C : Cx} {r : Option PV} {s' : PS} {w0 w w' : World} {e : Ending} (h : FPost C r s' w e w') (ho : C.O w0 w) : FPost C r s' w0 e w' := by
 cases r with
 | none => obtain ⟨v, rfl, hov, hP, hO⟩ := h; exact ⟨v, rfl, hov, hP, ho.trans hO⟩
 | some x => obtain ⟨u, z, rfl, hv, hP, hO⟩ := h; exact ⟨u, z, rfl, hv, hP, ho.trans hO⟩
theorem unary_walk (C : Cx) (b : Bool) (s : PS) (r : Option PV) (s' : PS) (hB : Big C.T (.un b) s r s') (hg : Gd s) (htok : TokOk C.T) (ih : IH C (mea C.T (.un b) s)) (w : World) (h : C.At s w) :
  Calls Tryz.prog 100 #[C.p, .bool b] w (FPost C r s' w) := by
 have hn := h.hn
 have hnext := h.next
 have hlen := h.len
 obtain ⟨Cb, Cpb, Cmb, CT, CA, Cn, Cc⟩ := C
 dsimp only at *
 cases hB with
 | @un_not_no _ _ s1 hsee h1 =>
  have HP0 := h_ h
  have HO0 := h_ (Owns.refl w (Fp Cpb Cmb))
  have hlt := sees_lt hsee
  rw [← hn] at hlt
  have HS := h_ (fun w1 h2 => sees_any Cb Cpb Cmb Cn Cc CT CA s ⟨#[110, 111, 116]⟩ true w1 h2 hsee)
  have HOp := h_ (fun w1 h2 => open_any Cb Cpb Cmb Cn Cc CT CA s w1 h2 hg hlt)
  have HI := h_ (fun w2 => ih _ _ (mea_adv (by rw [opn_next]; exact Nat.lt_succ_self _) (sees_lt hsee)) _ _ h1 hg.c_opn (notEncl (by simp)) w2)
  have hd : 0 < s1.depth := by rw [h1.depth, opn_depth]; omega
  clear h1 ih hg h hsee
  go_enter Tryz.func100, Tryz.ntmps100
  go_wp2_with fail
  refine (HS.out w HP0.out).mono ?_
  rintro e w1 ⟨rfl, hb1⟩
  have HP1 := h_ (HP0.out.below hb1)
  have HO1 := h_ (HO0.out.trans (Owns.of_below hb1 (Fp Cpb Cmb)))
  clear hb1
  go_wp2_with fail
  refine (HOp.out w1 HP1.out).mono ?_
  rintro e w2 ⟨rfl, hP2, hO2⟩
  have HP2 := h_ hP2
  have HO2 := h_ (HO1.out.trans hO2)
  clear hP2 hO2
  go_wp2_with fail
  refine (HI.out w2 HP2.out).mono ?_
  rintro e w3 ⟨v3, rfl, hov3, hP3, hO3⟩
  have HP3 := h_ hP3
  have HO3 := h_ (HO2.out.trans hO3)
  clear hP3 hO3
  obtain ⟨c0, c1, c2, c3, c4, c5, c6⟩ := HP3.out.cells
  have fz2 := HP3.out.fz
  have hdl : s1.depth ≤ 4001 := by have := HP3.out.depth; have := HP3.out.next; (try dsimp only at *); omega
  have HPd := h_ (HP3.out.down hd)
  have HOd := h_ (HO3.out.trans (owns_set w3 ⟨Cpb, 2, none⟩ (.int .i64 ((s1.depth : Int) - 1)) (.inl rfl)))
  go_wp2_with fail
  have HE := h_ (show FPost ⟨Cb, Cpb, Cmb, CT, CA, Cn, Cc⟩ none (dn s1) w (.returned (.tuple #[.nilIface, .bool false])) (w3.setCell ⟨Cpb, 2, none⟩ (.int .i64 ((s1.depth : Int) - 1))) from ⟨_, rfl, rfl, HPd.out, HOd.out⟩)
  go_wp2
  go_ret2
  exact HE.out
 | @un_not _ _ x s1 hsee h1 =>
  have HP0 := h_ h
  have HO0 := h_ (Owns.refl w (Fp Cpb Cmb))
  have hlt := sees_lt hsee
  rw [← hn] at hlt
  have HS := h_ (fun w1 h2 => sees_any Cb Cpb Cmb Cn Cc CT CA s ⟨#[110, 111, 116]⟩ true w1 h2 hsee)
  have HOp := h_ (fun w1 h2 => open_any Cb Cpb Cmb Cn Cc CT CA s w1 h2 hg hlt)
  have HI := h_ (fun w2 => ih _ _ (mea_adv (by rw [opn_next]; exact Nat.lt_succ_self _) (sees_lt hsee)) _ _ h1 hg.c_opn (notEncl (by simp)) w2)
  have hd : 0 < s1.depth := by rw [h1.depth, opn_depth]; omega
  clear h1 ih hg h hsee
  go_enter Tryz.func100, Tryz.ntmps100
  go_wp2_with fail
  refine (HS.out w HP0.out).mono ?_
  rintro e w1 ⟨rfl, hb1⟩
  have HP1 := h_ (HP0.out.below hb1)
  have HO1 := h_ (HO0.out.trans (Owns.of_below hb1 (Fp Cpb Cmb)))
  clear hb1
  go_wp2_with fail
  refine (HOp.out w1 HP1.out).mono ?_
  rintro e w2 ⟨rfl, hP2, hO2⟩
  have HP2 := h_ hP2
  have HO2 := h_ (HO1.out.trans hO2)
  clear hP2 hO2
  go_wp2_with fail
  refine (HI.out w2 HP2.out).mono ?_
  rintro e w3 ⟨u3, z3, rfl, hv3, hP3, hO3⟩
  have HV3 := h_ hv3
  have HP3 := h_ hP3
  have HO3 := h_ (HO2.out.trans hO3)
  clear hv3 hP3 hO3
  obtain ⟨c0, c1, c2, c3, c4, c5, c6⟩ := HP3.out.cells
  have fz2 := HP3.out.fz
  have hdl : s1.depth ≤ 4001 := by have := HP3.out.depth; have := HP3.out.next; (try dsimp only at *); omega
  have HPd := h_ (HP3.out.down hd)
  have HOd := h_ (HO3.out.trans (owns_set w3 ⟨Cpb, 2, none⟩ (.int .i64 ((s1.depth : Int) - 1)) (.inl rfl)))
  have HVd := h_ (HV3.out.owns (owns_set w3 ⟨Cpb, 2, none⟩ (.int .i64 ((s1.depth : Int) - 1)) (.inl rfl)))
  have HF1 := h_ (asFormula_any _ _ _ _ HVd.out)
  go_wp2_with fail
  refine HF1.out.mono ?_
  rintro e w4 ⟨u4, z4, rfl, rfl, hv4⟩
  have HE := h_ (show FPost ⟨Cb, Cpb, Cmb, CT, CA, Cn, Cc⟩ (some (.fo (.not (asF x)))) (dn s1) w (.returned (.tuple #[.iface tNot (.agg #[.iface u4 z4]), .bool true])) (w3.setCell ⟨Cpb, 2, none⟩ (.int .i64 ((s1.depth : Int) - 1))) from ⟨_, _, rfl, ⟨⟨_, rfl, hv4.1⟩, by simp, hv4.2.2⟩, HPd.out, HOd.out⟩)
  clear hv4
  go_wp2
  go_ret2
  exact HE.out
 | un_all a0 a1 h1 =>
  have HP0 := h_ h
  have HO0 := h_ (Owns.refl w (Fp Cpb Cmb))
  have H0 := h_ (fun w1 h2 => sees_any Cb Cpb Cmb Cn Cc CT CA s ⟨#[110, 111, 116]⟩ false w1 h2 a0)
  have HY := h_ (fun w1 h2 => accept_yes Cb Cpb Cmb Cn Cc CT CA s ⟨#[102, 111, 114, 97, 108, 108]⟩ w1 h2 a1)
  have HI := h_ (fun w2 => ih _ _ (mea_adv (Nat.lt_succ_self _) (sees_lt a1)) _ _ h1 hg.c_adv (notEncl (by simp)) w2)
  clear h1 ih hg h a0 a1
  go_enter Tryz.func100, Tryz.ntmps100
  go_wp2_with fail
  refine (H0.out w HP0.out).mono ?_
  rintro e w1 ⟨rfl, hb1⟩
  have HP1 := h_ (HP0.out.below hb1)
  have HO1 := h_ (HO0.out.trans (Owns.of_below hb1 (Fp Cpb Cmb)))
  clear hb1
  go_wp2_with fail
  refine (HY.out w1 HP1.out).mono ?_
  rintro e w2 ⟨rfl, hP2, hO2⟩
  have HP2 := h_ hP2
  have HO2 := h_ (HO1.out.trans hO2)
  clear hP2 hO2
  go_wp2_with fail
  refine (HI.out w2 HP2.out).mono ?_
  intro e w3 hF
  obtain ⟨v, ok, rfl, hov, hF⟩ := hF.tup
  have HE := h_ (hF.after HO2.out)
  clear hF
  go_wp2
  go_ret2
  exact HE.out
 | un_ex a0 a1 a2 h1 =>
  have HP0 := h_ h
  have HO0 := h_ (Owns.refl w (Fp Cpb Cmb))
  have H0 := h_ (fun w1 h2 => sees_any Cb Cpb Cmb Cn Cc CT CA s ⟨#[110, 111, 116]⟩ false w1 h2 a0)
  have H1 := h_ (fun w1 h2 => accept_no Cb Cpb Cmb Cn Cc CT CA s ⟨#[102, 111, 114, 97, 108, 108]⟩ w1 h2 a1)
  have HY := h_ (fun w1 h2 => accept_yes Cb Cpb Cmb Cn Cc CT CA s ⟨#[101, 120, 105, 115, 116, 115]⟩ w1 h2 a2)
  have HI := h_ (fun w2 => ih _ _ (mea_adv (Nat.lt_succ_self _) (sees_lt a2)) _ _ h1 hg.c_adv (notEncl (by simp)) w2)
  clear h1 ih hg h a0 a1 a2
  go_enter Tryz.func100, Tryz.ntmps100
  go_wp2_with fail
  refine (H0.out w HP0.out).mono ?_
  rintro e w1 ⟨rfl, hb1⟩
  have HP1 := h_ (HP0.out.below hb1)
  have HO1 := h_ (HO0.out.trans (Owns.of_below hb1 (Fp Cpb Cmb)))
  clear hb1
  go_wp2_with fail
  refine (H1.out w1 HP1.out).mono ?_
  rintro e w2 ⟨rfl, hb2⟩
  have HP2 := h_ (HP1.out.below hb2)
  have HO2 := h_ (HO1.out.trans (Owns.of_below hb2 (Fp Cpb Cmb)))
  clear hb2
  go_wp2_with fail
  refine (HY.out w2 HP2.out).mono ?_
  rintro e w3 ⟨rfl, hP3, hO3⟩
  have HP3 := h_ hP3
  have HO3 := h_ (HO2.out.trans hO3)
  clear hP3 hO3
  go_wp2_with fail
  refine (HI.out w3 HP3.out).mono ?_
  intro e w4 hF
  obtain ⟨v, ok, rfl, hov, hF⟩ := hF.tup
  have HE := h_ (hF.after HO3.out)
  clear hF
  go_wp2
  go_ret2
  exact HE.out
 | un_true a0 a1 a2 a3 =>
  have HP0 := h_ h
  have HO0 := h_ (Owns.refl w (Fp Cpb Cmb))
  have H0 := h_ (fun w1 h2 => sees_any Cb Cpb Cmb Cn Cc CT CA s ⟨#[110, 111, 116]⟩ false w1 h2 a0)
  have H1 := h_ (fun w1 h2 => accept_no Cb Cpb Cmb Cn Cc CT CA s ⟨#[102, 111, 114, 97, 108, 108]⟩ w1 h2 a1)
  have H2 := h_ (fun w1 h2 => accept_no Cb Cpb Cmb Cn Cc CT CA s ⟨#[101, 120, 105, 115, 116, 115]⟩ w1 h2 a2)
  have HY := h_ (fun w1 h2 => accept_yes Cb Cpb Cmb Cn Cc CT CA s ⟨#[116, 114, 117, 101]⟩ w1 h2 a3)
  clear ih hg h a0 a1 a2 a3
  go_enter Tryz.func100, Tryz.ntmps100
  go_wp2_with fail
  refine (H0.out w HP0.out).mono ?_
  rintro e w1 ⟨rfl, hb1⟩
  have HP1 := h_ (HP0.out.below hb1)
  have HO1 := h_ (HO0.out.trans (Owns.of_below hb1 (Fp Cpb Cmb)))
  clear hb1
  go_wp2_with fail
  refine (H1.out w1 HP1.out).mono ?_
  rintro e w2 ⟨rfl, hb2⟩
  have HP2 := h_ (HP1.out.below hb2)
  have HO2 := h_ (HO1.out.trans (Owns.of_below hb2 (Fp Cpb Cmb)))
  clear hb2
  go_wp2_with fail
  refine (H2.out w2 HP2.out).mono ?_
  rintro e w3 ⟨rfl, hb3⟩
  have HP3 := h_ (HP2.out.below hb3)
  have HO3 := h_ (HO2.out.trans (Owns.of_below hb3 (Fp Cpb Cmb)))
  clear hb3
  go_wp2_with fail
  refine (HY.out w3 HP3.out).mono ?_
  rintro e w4 ⟨rfl, hP4, hO4⟩
  have HP4 := h_ hP4
  have HO4 := h_ (HO3.out.trans hO4)
  clear hP4 hO4
  have HE := h_ (show FPost ⟨Cb, Cpb, Cmb, CT, CA, Cn, Cc⟩ (some (.fo (.truth true))) (adv s) w (.returned (.tuple #[.iface tTruth (.agg #[.bool true]), .bool true])) w4 from ⟨_, _, rfl, ⟨rfl, by simp, trivial⟩, HP4.out, HO4.out⟩)
  go_wp2
  go_ret2
  exact HE.out
 | un_false a0 a1 a2 a3 a4 =>
  have HP0 := h_ h
  have HO0 := h_ (Owns.refl w (Fp Cpb Cmb))
  have H0 := h_ (fun w1 h2 => sees_any Cb Cpb Cmb Cn Cc CT CA s ⟨#[110, 111, 116]⟩ false w1 h2 a0)
  have H1 := h_ (fun w1 h2 => accept_no Cb Cpb Cmb Cn Cc CT CA s ⟨#[102, 111, 114, 97, 108, 108]⟩ w1 h2 a1)
  have H2 := h_ (fun w1 h2 => accept_no Cb Cpb Cmb Cn Cc CT CA s ⟨#[101, 120, 105, 115, 116, 115]⟩ w1 h2 a2)
  have H3 := h_ (fun w1 h2 => accept_no Cb Cpb Cmb Cn Cc CT CA s ⟨#[116, 114, 117, 101]⟩ w1 h2 a3)
  have HY := h_ (fun w1 h2 => accept_yes Cb Cpb Cmb Cn Cc CT CA s ⟨#[102, 97, 108, 115, 101]⟩ w1 h2 a4)
  clear ih hg h a0 a1 a2 a3 a4
  go_enter Tryz.func100, Tryz.ntmps100
  go_wp2_with fail
  refine (H0.out w HP0.out).mono ?_
  rintro e w1 ⟨rfl, hb1⟩
  have HP1 := h_ (HP0.out.below hb1)
  have HO1 := h_ (HO0.out.trans (Owns.of_below hb1 (Fp Cpb Cmb)))
  clear hb1
  go_wp2_with fail
  refine (H1.out w1 HP1.out).mono ?_
  rintro e w2 ⟨rfl, hb2⟩
  have HP2 := h_ (HP1.out.below hb2)
  have HO2 := h_ (HO1.out.trans (Owns.of_below hb2 (Fp Cpb Cmb)))
  clear hb2
  go_wp2_with fail
  refine (H2.out w2 HP2.out).mono ?_
  rintro e w3 ⟨rfl, hb3⟩
  have HP3 := h_ (HP2.out.below hb3)
  have HO3 := h_ (HO2.out.trans (Owns.of_below hb3 (Fp Cpb Cmb)))
  clear hb3
  go_wp2_with fail
  refine (H3.out w3 HP3.out).mono ?_
  rintro e w4 ⟨rfl, hb4⟩
  have HP4 := h_ (HP3.out.below hb4)
  have HO4 := h_ (HO3.out.trans (Owns.of_below hb4 (Fp Cpb Cmb)))
  clear hb4
  go_wp2_with fail
  refine (HY.out w4 HP4.out).mono ?_
  rintro e w5 ⟨rfl, hP5, hO5⟩
  have HP5 := h_ hP5
  have HO5 := h_ (HO4.out.trans hO5)
  clear hP5 hO5
  have HE := h_ (show FPost ⟨Cb, Cpb, Cmb, CT, CA, Cn, Cc⟩ (some (.fo (.truth false))) (adv s) w (.returned (.tuple #[.iface tTruth (.agg #[.bool false]), .bool true])) w5 from ⟨_, _, rfl, ⟨rfl, by simp, trivial⟩, HP5.out, HO5.out⟩)
  go_wp2
  go_ret2
  exact HE.out
 | un_atom a0 a1 a2 a3 a4 h1 =>
  have HP0 := h_ h
  have HO0 := h_ (Owns.refl w (Fp Cpb Cmb))
  have H0 := h_ (fun w1 h2 => sees_any Cb Cpb Cmb Cn Cc CT CA s ⟨#[110, 111, 116]⟩ false w1 h2 a0)
  have H1 := h_ (fun w1 h2 => accept_no Cb Cpb Cmb Cn Cc CT CA s ⟨#[102, 111, 114, 97, 108, 108]⟩ w1 h2 a1)
  have H2 := h_ (fun w1 h2 => accept_no Cb Cpb Cmb Cn Cc CT CA s ⟨#[101, 120, 105, 115, 116, 115]⟩ w1 h2 a2)
  have H3 := h_ (fun w1 h2 => accept_no Cb Cpb Cmb Cn Cc CT CA s ⟨#[116, 114, 117, 101]⟩ w1 h2 a3)
  have H4 := h_ (fun w1 h2 => accept_no Cb Cpb Cmb Cn Cc CT CA s ⟨#[102, 97, 108, 115, 101]⟩ w1 h2 a4)
  have HI := h_ (fun w2 => ih _ _ (mea_same (by simp [lvl])) _ _ h1 hg (notEncl (by simp)) w2)
  clear h1 ih hg h a0 a1 a2 a3 a4
  go_enter Tryz.func100, Tryz.ntmps100
  go_wp2_with fail
  refine (H0.out w HP0.out).mono ?_
  rintro e w1 ⟨rfl, hb1⟩
  have HP1 := h_ (HP0.out.below hb1)
  have HO1 := h_ (HO0.out.trans (Owns.of_below hb1 (Fp Cpb Cmb)))
  clear hb1
  go_wp2_with fail
  refine (H1.out w1 HP1.out).mono ?_
  rintro e w2 ⟨rfl, hb2⟩
  have HP2 := h_ (HP1.out.below hb2)
  have HO2 := h_ (HO1.out.trans (Owns.of_below hb2 (Fp Cpb Cmb)))
  clear hb2
  go_wp2_with fail
  refine (H2.out w2 HP2.out).mono ?_
  rintro e w3 ⟨rfl, hb3⟩
  have HP3 := h_ (HP2.out.below hb3)
  have HO3 := h_ (HO2.out.trans (Owns.of_below hb3 (Fp Cpb Cmb)))
  clear hb3
  go_wp2_with fail
  refine (H3.out w3 HP3.out).mono ?_
  rintro e w4 ⟨rfl, hb4⟩
  have HP4 := h_ (HP3.out.below hb4)
  have HO4 := h_ (HO3.out.trans (Owns.of_below hb4 (Fp Cpb Cmb)))
  clear hb4
  go_wp2_with fail
  refine (H4.out w4 HP4.out).mono ?_
  rintro e w5 ⟨rfl, hb5⟩
  have HP5 := h_ (HP4.out.below hb5)
  have HO5 := h_ (HO4.out.trans (Owns.of_below hb5 (Fp Cpb Cmb)))
  clear hb5
  go_wp2_with fail
  refine (HI.out w5 HP5.out).mono ?_
  intro e w6 hF
  obtain ⟨v, ok, rfl, hov, hF⟩ := hF.tup
  have HE := h_ (hF.after HO5.out)
  clear hF
  go_wp2
  go_ret2
  exact HE.out
end Pa
end Go.Proofs.YteneobpacobpdaaGreatDoor
