/-
  The parser's functions, each walked under the contracts of those that it calls.
-/
import Derived.Test.YtkjbfomokdjbnaaGreatDoorPaC
import Derived.Test.YtkjbfomokdjbnaaGreatDoorDcX
namespace Go.Proofs.YtkjbfomokdjbnaaGreatDoor
open Go.RowKit
set_option linter.unusedSimpArgs false
set_option linter.unusedVariables false
namespace Pa
open Lx Fm Dc
attribute [local go_sem] run_store fieldTok0 fieldTok2
/-! ### the counters -/
theorem Gd.c_adv {s : PS} (h : Gd s) : Gd (adv s) := ⟨Nat.le_succ_of_le h.1, Nat.le_succ_of_le h.2.1, Nat.le_succ_of_le h.2.2⟩
theorem Gd.c_dn {s : PS} (h : Gd s) : Gd (dn s) := ⟨Nat.le_trans (Nat.sub_le _ _) h.1, h.2⟩
theorem Gd.c_exc {s : PS} (h : Gd s) (p : Nat) : Gd (exc s p) := by obtain ⟨e1, e2, e3, e4⟩ := exc_eq s p; unfold Gd; rw [e1, e2, e3, e4]; exact h
theorem inc_eq (T : List Tok) (s : PS) : (inc T s).next = s.next ∧ (inc T s).depth = s.depth + 1 ∧ (inc T s).rels = s.rels ∧ (inc T s).names = s.names := by
  unfold inc; split
  · obtain ⟨e1, e2, e3, e4⟩ := exc_eq { s with depth := s.depth + 1 } (pk T s).pos
    exact ⟨e1, e2, e3, e4⟩
  · exact ⟨rfl, rfl, rfl, rfl⟩
theorem Gd.c_opn {T : List Tok} {s : PS} (h : Gd s) : Gd (opn T s) := by
  obtain ⟨e1, e2, e3, e4⟩ := inc_eq T s
  unfold opn Pa.adv Gd
  simp only [e1, e2, e3, e4]
  have := h.1; have := h.2.1; have := h.2.2
  omega
theorem nm1_eq (T : List Tok) (s : PS) : (nm1 T s).next = s.next ∧ (nm1 T s).depth = s.depth ∧ (nm1 T s).rels = s.rels ∧ (nm1 T s).names.length ≤ s.names.length + 1 := by
  unfold nm1
  split
  · exact ⟨rfl, rfl, rfl, Nat.le_succ _⟩
  · split
    · obtain ⟨e1, e2, e3, e4⟩ := exc_eq { s with names := s.names ++ [bs (pk T s).text] } (pk T s).pos
      exact ⟨e1, e2, e3, by rw [e4]; simp⟩
    · exact ⟨rfl, rfl, rfl, by simp⟩
theorem nam_gd {T : List Tok} {s : PS} (h1 : s.depth ≤ s.next + 1) (h2 : s.rels ≤ s.next) (h3 : s.names.length ≤ s.next) : Gd (nam T s) := by
  obtain ⟨e1, e2, e3, e4⟩ := nm1_eq T s
  unfold nam Pa.adv Gd
  simp only [e1, e2, e3]
  omega
theorem Gd.c_nam {T : List Tok} {s : PS} (h : Gd s) : Gd (nam T s) := nam_gd (Nat.le_succ_of_le h.1) h.2.1 h.2.2
theorem Gd.c_naminc {T : List Tok} {s : PS} (h : Gd s) : Gd (nam T (inc T s)) := by
  obtain ⟨e1, e2, e3, e4⟩ := inc_eq T s
  exact nam_gd (by rw [e1, e2]; have := h.1; omega) (by rw [e1, e3]; exact h.2.1) (by rw [e1, e4]; exact h.2.2)
theorem Gd.c_rel {T : List Tok} {s : PS} (h : Gd s) : Gd (relS T s) := by
  have e : (rel1 T s).next = s.next ∧ (rel1 T s).depth = s.depth ∧ (rel1 T s).rels = s.rels + 1 ∧ (rel1 T s).names = s.names := by
    unfold rel1; split
    · obtain ⟨e1, e2, e3, e4⟩ := exc_eq { s with rels := s.rels + 1 } (pk T s).pos
      exact ⟨e1, e2, e3, e4⟩
    · exact ⟨rfl, rfl, rfl, rfl⟩
  obtain ⟨e1, e2, e3, e4⟩ := e
  unfold relS Pa.adv Gd
  simp only [e1, e2, e3, e4]
  have := h.1; have := h.2.1; have := h.2.2
  omega
theorem Gd.c_meas {s : PS} (h : Gd s) (t : Tok) (x : Tm) (l : List Tm) : Gd (meas s t x l) := by unfold Pa.meas; split; exact h.c_exc _; exact h
theorem Gd.c_pow {T : List Tok} {x : Tm} {s : PS} (h : Gd s) : Gd (powS T x s) := by
  unfold powS
  refine Gd.c_meas ?_ _ _ _
  split
  · exact h.c_adv.c_adv.c_exc _
  · exact h.c_adv.c_adv
theorem Big.gd {T : List Tok} {c : PC} {s s' : PS} {r : Option PV} (h : Big T c s r s') : Gd s → Gd s' := by
  induction h with
  | iff_no _ i => exact i
  | iff_go _ _ i j => exact fun g => j (i g)
  | iffL_end _ => exact id
  | iffL_bad _ _ i => exact fun g => i g.c_adv
  | iffL_go _ _ _ i j => exact fun g => j (i g.c_adv)
  | imp_no _ i => exact i
  | imp_one _ _ i => exact i
  | imp_bad _ _ _ i j => exact fun g => j (i g).c_adv
  | imp_two _ _ _ i j => exact fun g => j (i g).c_adv
  | or_no _ i => exact i
  | or_go _ _ i j => exact fun g => j (i g)
  | orL_end _ => exact id
  | orL_bad _ _ i => exact fun g => i g.c_adv
  | orL_go _ _ _ i j => exact fun g => j (i g.c_adv)
  | and_no _ i => exact i
  | and_go _ _ i j => exact fun g => j (i g)
  | andL_end _ => exact id
  | andL_bad _ _ i => exact fun g => i g.c_adv
  | andL_go _ _ _ i j => exact fun g => j (i g.c_adv)
  | un_not_no _ _ i => exact fun g => (i g.c_opn).c_dn
  | un_not _ _ i => exact fun g => (i g.c_opn).c_dn
  | un_all _ _ _ i => exact fun g => i g.c_adv
  | un_ex _ _ _ _ i => exact fun g => i g.c_adv
  | un_true _ _ _ _ => exact Gd.c_adv
  | un_false _ _ _ _ _ => exact Gd.c_adv
  | un_atom _ _ _ _ _ _ i => exact i
  | qu_no _ => exact id
  | qu_comma_no _ _ _ i => exact fun g => (i g.c_naminc.c_adv).c_dn
  | qu_comma _ _ _ i => exact fun g => (i g.c_naminc.c_adv).c_dn
  | qu_dot_no _ _ _ _ i => exact fun g => (i g.c_naminc.c_adv).c_dn
  | qu_dot _ _ _ _ i => exact fun g => (i g.c_naminc.c_adv).c_dn
  | qu_bad _ _ _ => exact fun g => g.c_naminc.c_dn
  | at_no _ _ i => exact i
  | at_fo _ _ i => exact i
  | at_par _ _ _ i j => exact fun g => j (i g)
  | at_go _ _ i => exact i
  | atT_no _ i => exact i
  | atT_bare _ _ _ i => exact i
  | atT_none _ _ _ i => exact i
  | atT_bad _ _ _ i j => exact fun g => j (i g).c_rel
  | atT_ok _ _ _ i j => exact fun g => j (i g).c_rel
  | en_no _ i => exact fun g => (i g.c_opn).c_dn
  | en_bad _ _ i => exact fun g => (i g.c_opn).c_dn
  | en_ok _ _ i => exact fun g => (i g.c_opn).c_dn.c_adv
  | te_no _ i => exact i
  | te_go _ _ i j => exact fun g => j (i g)
  | teL_end _ => exact id
  | teL_bad _ _ i => exact fun g => i g.c_adv
  | teL_go _ _ _ i j => exact fun g => j ((i g.c_adv).c_meas _ _ _)
  | pd_no _ i => exact i
  | pd_go _ _ i j => exact fun g => j (i g)
  | pdL_end _ => exact id
  | pdL_bad _ _ i => exact fun g => i g.c_adv
  | pdL_go _ _ _ i j => exact fun g => j ((i g.c_adv).c_meas _ _ _)
  | fa_first _ i => exact i
  | fa_pow _ _ i => exact i
  | fa_no _ _ i => exact fun g => (i g.c_opn).c_dn
  | fa_neg _ _ i => exact fun g => (i g.c_opn).c_dn
  | po_first _ i => exact i
  | po_no _ i => exact i
  | po_go _ _ i j => exact fun g => j (i g)
  | pT_end _ => exact id
  | pT_bad _ _ => exact Gd.c_adv
  | pT_ok _ _ => exact Gd.c_pow
  | pr_num _ => exact Gd.c_adv
  | pr_name _ => exact Gd.c_nam
  | pr_no _ _ i => exact fun g => (i g.c_opn).c_dn
  | pr_bad _ _ _ i => exact fun g => (i g.c_opn).c_dn
  | pr_ok _ _ _ i => exact fun g => (i g.c_opn).c_dn.c_adv
  | pr_none _ _ _ => exact id

/-! ### what a function gives -/
/-- the tokens are as the lexer makes them -/
def TokOk (T : List Tok) : Prop := ∀ t ∈ T, t.text.length ≤ 40 ∧ (t.kind = 1 → (∀ c ∈ t.text, dig c = true) ∧ 0 < t.text.length ∧ (t.text.length = 1 ∨ ∀ h : 0 < t.text.length, (t.text[0]'h).toNat ≠ 48))
theorem TokOk.pk {T : List Tok} (h : TokOk T) (s : PS) : (pk T s).text.length ≤ 40 := by
  unfold Pa.pk
  rcases hx : T[s.next]? with _ | t
  · exact Nat.zero_le _
  · exact (h t (List.mem_of_getElem? hx)).1
structure Cx where
  B : Nat
  pb : Nat
  mb : Nat
  T : List Tok
  A : Option Addr
  n : Nat
  c : Nat
abbrev Cx.At (C : Cx) (s : PS) (w : World) : Prop := PAt C.B C.pb C.mb C.T C.A C.n C.c s w
abbrev Cx.V (C : Cx) (w : World) (x : PV) (v : Value) : Prop := PVAt w (Gp C.pb C.mb w) x v
abbrev Cx.O (C : Cx) (w w' : World) : Prop := Owns w w' (Fp C.pb C.mb) (Fp C.pb C.mb)
abbrev Cx.p (C : Cx) : Value := .pointer (some ⟨C.pb, 0, none⟩)
def FPost (C : Cx) (r : Option PV) (s' : PS) (w : World) (e : Ending) (w' : World) : Prop :=
  match r with
  | none => ∃ v, e = .returned (.tuple #[v, .bool false]) ∧ v.oneCell' = true ∧ C.At s' w' ∧ C.O w w'
  | some x => ∃ u z, e = .returned (.tuple #[.iface u z, .bool true]) ∧ C.V w' x (.iface u z) ∧ C.At s' w' ∧ C.O w w'
def QAt (C : Cx) (w : World) : Option Tm → Value → Prop
  | none, v => v = .nilIface
  | some t, v => C.V w (.tm t) v
def CallsP (C : Cx) (c : PC) (r : Option PV) (s' : PS) (w : World) : Prop :=
  match c with
  | .term q => ∀ v, QAt C w q v → Calls Tryz.prog 23 #[C.p, v] w (FPost C r s' w)
  | .prod q => ∀ v, QAt C w q v → Calls Tryz.prog 46 #[C.p, v] w (FPost C r s' w)
  | .fac q => ∀ v, QAt C w q v → Calls Tryz.prog 67 #[C.p, v] w (FPost C r s' w)
  | .pow q => ∀ v, QAt C w q v → Calls Tryz.prog 81 #[C.p, v] w (FPost C r s' w)
  | .prim => Calls Tryz.prog 91 #[C.p] w (FPost C r s' w)
  | _ => True
/-- the contract of a call -/
def CP (C : Cx) (c : PC) (s : PS) : Prop := ∀ r s', Big C.T c s r s' → Gd s → Ok C.T c s → ∀ w, C.At s w → CallsP C c r s' w
/-- the contracts of all that is nearer to the end -/
def IH (C : Cx) (M : Nat) : Prop := ∀ c s, mea C.T c s < M → CP C c s
theorem notEncl {T : List Tok} {c : PC} {s : PS} (h : c ≠ .encl) : Ok T c s := fun e => absurd e h
theorem mea_same {T : List Tok} {c d : PC} {s : PS} (h : lvl c < lvl d) : mea T c s < mea T d s := by unfold mea; omega
theorem lvl_lt (c : PC) : lvl c < 16 := by cases c <;> simp [lvl]
theorem mea_adv {T : List Tok} {c d : PC} {s s1 : PS} (h : s.next < s1.next) (h2 : s.next < T.length) : mea T c s1 < mea T d s := by
  unfold mea
  have := lvl_lt c
  omega
/-- what a loop's round lowers -/
def msr (n pb : Nat) (ok : Value) (w : World) : Nat :=
  match ok, w.cell? ⟨pb, 1, none⟩ with
  | .bool true, some (.int _ k) => n + 1 - k.toNat
  | _, _ => 0
theorem msr_true {C : Cx} {s : PS} {w : World} (h : C.At s w) : msr C.n C.pb (.bool true) w = C.n + 1 - s.next := by
  unfold msr
  rw [h.cells.2.1]
  simp
end Pa
end Go.Proofs.YtkjbfomokdjbnaaGreatDoor

/-
  The parser: iff, or, and.
-/
namespace Go.Proofs.YtkjbfomokdjbnaaGreatDoor
open Go.RowKit
set_option linter.unusedSimpArgs false
set_option linter.unusedVariables false
namespace Pa
open Lx Fm Dc
attribute [local go_sem] run_store fieldTok0 fieldTok2
attribute [local go_sem] anF_Num anF_Name anF_Add anF_Sub anF_Mul anF_Neg anF_Pow anF_Truth anF_Atom anF_Not anF_And anF_Or anF_Implies anF_Iff anF_Quant anT_Num anT_Name anT_Add anT_Sub anT_Mul anT_Neg anT_Pow

/-! ### iff -/
/-! ### or -/
/-! ### and -/
end Pa
end Go.Proofs.YtkjbfomokdjbnaaGreatDoor

/-
  The parser: implies, enclosed.
-/
namespace Go.Proofs.YtkjbfomokdjbnaaGreatDoor
open Go.RowKit
set_option linter.unusedSimpArgs false
set_option linter.unusedVariables false
namespace Pa
open Lx Fm Dc
attribute [local go_sem] run_store fieldTok0 fieldTok2
attribute [local go_sem] anF_Num anF_Name anF_Add anF_Sub anF_Mul anF_Neg anF_Pow anF_Truth anF_Atom anF_Not anF_And anF_Or anF_Implies anF_Iff anF_Quant anT_Num anT_Name anT_Add anT_Sub anT_Mul anT_Neg anT_Pow

/-! ### the depth is restored -/
theorem opn_depth (T : List Tok) (s : PS) : (opn T s).depth = s.depth + 1 := by unfold opn adv; simp [inc_depth]
theorem nm1_depth (T : List Tok) (s : PS) : (nm1 T s).depth = s.depth := (nm1_eq T s).2.1
theorem nam_depth (T : List Tok) (s : PS) : (nam T s).depth = s.depth := by unfold nam adv; exact nm1_depth T s
theorem relS_depth (T : List Tok) (s : PS) : (relS T s).depth = s.depth := by unfold relS adv rel1; split <;> simp [exc_depth]
theorem meas_depth (s : PS) (t : Tok) (x : Tm) (l : List Tm) : (meas s t x l).depth = s.depth := by unfold meas; split <;> simp [exc_depth]
theorem powS_depth (T : List Tok) (x : Tm) (s : PS) : (powS T x s).depth = s.depth := by unfold powS; rw [meas_depth]; split <;> simp [exc_depth, adv]
theorem adv_depth (s : PS) : (adv s).depth = s.depth := rfl
theorem dn_depth (s : PS) : (dn s).depth = s.depth - 1 := rfl
theorem Big.depth {T : List Tok} {c : PC} {s s' : PS} {r : Option PV} (h : Big T c s r s') : s'.depth = s.depth := by
  induction h <;> (try simp only [opn_depth, nam_depth, inc_depth, relS_depth, meas_depth, powS_depth, adv_depth, dn_depth] at *) <;> omega
theorem PAt.down {B pb mb n c : Nat} {T : List Tok} {A : Option Addr} {s : PS} {w : World} (h : PAt B pb mb T A n c s w) (hd : 0 < s.depth) : PAt B pb mb T A n c (dn s) (w.setCell ⟨pb, 2, none⟩ (.int .i64 ((s.depth : Int) - 1))) :=
  h.set (s' := dn s) 2 _ (by have e : (s.depth : Int) - 1 = ((s.depth - 1 : Nat) : Int) := by omega
                             rw [e]; rfl) rfl h.next (by have := h.depth; show s.depth - 1 ≤ s.next + 1; omega) h.rels h.nms

/-! ### implies -/
/-! ### enclosed -/
end Pa
end Go.Proofs.YtkjbfomokdjbnaaGreatDoor

/-
  The parser: unary.
-/
namespace Go.Proofs.YtkjbfomokdjbnaaGreatDoor
open Go.RowKit
set_option linter.unusedSimpArgs false
set_option linter.unusedVariables false
namespace Pa
open Lx Fm Dc
attribute [local go_sem] run_store fieldTok0 fieldTok2
attribute [local go_sem] anF_Num anF_Name anF_Add anF_Sub anF_Mul anF_Neg anF_Pow anF_Truth anF_Atom anF_Not anF_And anF_Or anF_Implies anF_Iff anF_Quant anT_Num anT_Name anT_Add anT_Sub anT_Mul anT_Neg anT_Pow

/-! ### what is given back -/
theorem FPost.tup {C : Cx} {r : Option PV} {s' : PS} {w w' : World} {e : Ending} (h : FPost C r s' w e w') : ∃ v ok, e = .returned (.tuple #[v, .bool ok]) ∧ v.oneCell' = true ∧ FPost C r s' w (.returned (.tuple #[v, .bool ok])) w' := by
  cases r with
  | none => obtain ⟨v, rfl, hov, hP, hO⟩ := h; exact ⟨v, false, rfl, hov, v, rfl, hov, hP, hO⟩
  | some x => obtain ⟨u, z, rfl, hv, hP, hO⟩ := h; exact ⟨_, true, rfl, rfl, u, z, rfl, hv, hP, hO⟩
theorem FPost.after {C : Cx} {r : Option PV} {s' : PS} {w0 w w' : World} {e : Ending} (h : FPost C r s' w e w') (ho : C.O w0 w) : FPost C r s' w0 e w' := by
  cases r with
  | none => obtain ⟨v, rfl, hov, hP, hO⟩ := h; exact ⟨v, rfl, hov, hP, ho.trans hO⟩
  | some x => obtain ⟨u, z, rfl, hv, hP, hO⟩ := h; exact ⟨u, z, rfl, hv, hP, ho.trans hO⟩

/-! ### unary -/
end Pa
end Go.Proofs.YtkjbfomokdjbnaaGreatDoor
