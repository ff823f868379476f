/-
  formula.Rename: its closure.
-/
import Derived.Test.YtjbgdaojhdobkaaVa
import Derived.Test.YtjbgdaojhdobkaaFmE
import Derived.Test.YtjbgdaojhdobkaaFmY
import Derived.Test.YtjbgdaojhdobkaaRnB
import Derived.Test.YtjbgdaojhdobkaaFmV
import Derived.Test.YtjbgdaojhdobkaaFmC
namespace Go.Proofs.Ytjbgdaojhdobkaa
open Go.RowKit
set_option linter.unusedSimpArgs false
set_option linter.unusedVariables false
namespace Rn
open Fm Va
attribute [local go_sem] run_store

abbrev rnF (B : Nat) : Nat → Prop := fun b => b = B ∨ b = B + 1 ∨ b = B + 2 ∨ b = B + 4
/-- whether a free occurrence was caught -/
def rnStep (from_ to_ : ByteArray) (c : Bool) (g : ByteArray → Int) (nm : ByteArray) : Bool := c || (decide (nm = from_) && (decide (g from_ = 0) && decide (0 < g to_)))
def RnJ (from_ to_ : ByteArray) (B : Nat) (c : Bool) (F : Nat → Prop) (W : World) : Prop :=
  W.heap[B]? = some (.cells #[.string from_] tStr (0, 0)) ∧ W.heap[B + 1]? = some (.cells #[.string to_] tStr (0, 0)) ∧ W.heap[B + 2]? = some (.cells #[.bool c] tB (0, 0)) ∧ W.heap[B + 4]? = some (.cells #[.map (some (B + 3))] tMI (0, 0)) ∧ F = rnF B
abbrev rnCaps (B : Nat) : Array Value := #[.pointer (some ⟨B, 0, none⟩), .pointer (some ⟨B + 4, 0, none⟩), .pointer (some ⟨B + 1, 0, none⟩), .pointer (some ⟨B + 2, 0, none⟩)]
variable {from_ to_ : ByteArray} {B : Nat}
theorem RnJ.lt {c : Bool} {F : Nat → Prop} {W : World} (h : RnJ from_ to_ B c F W) : ∀ b, F b → b < W.heap.size := by
  obtain ⟨h1, h2, h3, h4, rfl⟩ := h
  intro b hb
  rcases hb with rfl | rfl | rfl | rfl
  · exact blk_lt h1
  · exact blk_lt h2
  · exact blk_lt h3
  · exact blk_lt h4
theorem RnJ.keep {c : Bool} {F : Nat → Prop} {W W' : World} (h : RnJ from_ to_ B c F W) (hk : ∀ b, F b → W'.heap[b]? = W.heap[b]?) : RnJ from_ to_ B c F W' := by
  obtain ⟨h1, h2, h3, h4, rfl⟩ := h
  exact ⟨(hk _ (.inl rfl)).trans h1, (hk _ (.inr (.inl rfl))).trans h2, (hk _ (.inr (.inr (.inl rfl)))).trans h3, (hk _ (.inr (.inr (.inr rfl)))).trans h4, rfl⟩
theorem RnJ.set {c : Bool} {F : Nat → Prop} {W : World} (h : RnJ from_ to_ B c F W) (v : Bool) : RnJ from_ to_ B v F (W.setCell ⟨B + 2, 0, none⟩ (.bool v)) ∧ Owns W (W.setCell ⟨B + 2, 0, none⟩ (.bool v)) F F := by
  obtain ⟨h1, h2, h3, h4, rfl⟩ := h
  refine ⟨⟨(Below.heap_setCell _ _ _ _ (by show B ≠ B + 2; omega)).trans h1, (Below.heap_setCell _ _ _ _ (by show B + 1 ≠ B + 2; omega)).trans h2, ?_, (Below.heap_setCell _ _ _ _ (by show B + 4 ≠ B + 2; omega)).trans h4, rfl⟩, ?_⟩
  · rw [setCell_block _ _ _ _ _ _ h3]; rfl
  · exact ⟨rfl, rfl, rfl, by simp [World.setCell], fun b _ hb => Below.heap_setCell _ _ _ _ (fun e => hb (.inr (.inr (.inl e)))), fun _ h => .inl h⟩

theorem MapI.runLook {w : World} {b n : Nat} {g : ByteArray → Int} (hown : MapI w b n g) (s : ByteArray) (hs : s.size ≤ 9223372036854775807) (x : Int) (hx : x = g s) : Sem.run Try.prog (Instr.lookup tMI (.map (some b)) (.string s) false) w = .ok (.int .i64 x) w := by
  obtain ⟨D, h1, h2⟩ := hown
  obtain ⟨c, hrun, hat, _⟩ := h1.lookup_int strLaw Try.underlying114 Try.underlying3 (zeroI w) (keyS hs)
  rw [h2] at hat
  simp only [DataW.lit.injEq, Lit.int.injEq, true_and] at hat
  rw [hx, hat]; exact hrun

set_option maxRecDepth 100000 in
set_option maxHeartbeats 2000000 in
theorem rn1_any (hfs : from_.size ≤ 9223372036854775807) (hts : to_.size ≤ 9223372036854775807) (c : Bool) (g : ByteArray → Int) (k : Nat) (F : Nat → Prop) (W : World) (nm : ByteArray) (hJ : RnJ from_ to_ B c F W) (hM : MapI W (B + 3) k g) :
    Calls Try.prog 80 (#[.string nm] ++ rnCaps B) W fun e W' => e = .returned (.tuple #[]) ∧ RnJ from_ to_ B (rnStep from_ to_ c g nm) F W' ∧ Owns W W' F F := by
  have HJ := Lib.hid hJ
  obtain ⟨h1, h2, h3, h4, hF⟩ := hJ
  have c1 : W.cell? ⟨B, 0, none⟩ = some (.string from_) := cell_of_blk h1 rfl
  have c2 : W.cell? ⟨B + 1, 0, none⟩ = some (.string to_) := cell_of_blk h2 rfl
  have c3 : W.cell? ⟨B + 2, 0, none⟩ = some (.bool c) := cell_of_blk h3 rfl
  have z3 : W.frozen? ⟨B + 2, 0, none⟩ = false := fz_of_blk h3
  have c4 : W.cell? ⟨B + 4, 0, none⟩ = some (.map (some (B + 3))) := cell_of_blk h4 rfl
  have HM := Lib.hid hM
  obtain ⟨x, hx⟩ : ∃ x, x = g from_ := ⟨_, rfl⟩
  obtain ⟨y, hy⟩ : ∃ y, y = g to_ := ⟨_, rfl⟩
  have HX := Lib.hid hx
  have HY := Lib.hid hy
  have HS := Lib.hid (show rnStep from_ to_ c g nm = (c || (decide (nm = from_) && (decide (x = 0) && decide (0 < y)))) from by rw [hx, hy]; rfl)
  rw [HS.out]
  show Calls Try.prog 80 #[.string nm, .pointer (some ⟨B, 0, none⟩), .pointer (some ⟨B + 4, 0, none⟩), .pointer (some ⟨B + 1, 0, none⟩), .pointer (some ⟨B + 2, 0, none⟩)] W _
  have l1 := MapI.runLook hM from_ hfs x hx
  have l2 := MapI.runLook hM to_ hts y hy
  clear h1 h2 h3 h4 hF hM hx hy HS
  have same : RnJ from_ to_ B c F W ∧ Owns W W F F := ⟨HJ.out, Owns.refl _ _⟩
  have SM := Lib.hid same
  clear same
  by_cases e1 : nm = from_
  · subst e1
    have hb1 : (nm.toList == nm.toList) = true := by simp
    by_cases e2 : x = 0
    · by_cases e3 : 0 < y
      · rw [show (c || (decide (nm = nm) && (decide (x = 0) && decide (0 < y)))) = true by simp [e2, e3]]
        subst e2
        go_enter Try.func80, Try.ntmps80
        go_wp2
        go_end0
        exact ⟨rfl, (HJ.out.set true)⟩
      · rw [show (c || (decide (nm = nm) && (decide (x = 0) && decide (0 < y)))) = c by simp [e2, e3]]
        subst e2
        go_enter Try.func80, Try.ntmps80
        go_wp2
        go_end0
        exact ⟨rfl, SM.out⟩
    · rw [show (c || (decide (nm = nm) && (decide (x = 0) && decide (0 < y)))) = c by simp [e2]]
      have hb2 : (x == 0) = false := by simpa using e2
      go_enter Try.func80, Try.ntmps80
      go_wp2
      go_end0
      exact ⟨rfl, SM.out⟩
  · rw [show (c || (decide (nm = from_) && (decide (x = 0) && decide (0 < y)))) = c by simp [e1]]
    have hb1 : (nm.toList == from_.toList) = false := (Lib.bytes_beq_false_iff nm from_).2 e1
    clear e1
    go_enter Try.func80, Try.ntmps80
    go_wp2
    go_end0
    exact ⟨rfl, SM.out⟩

theorem cf_rn1 (args : Array Value) (w : World) : (callFunc 80 args).run Try.prog w = .ok (.enter 80 args) w := by kernel_rfl
theorem rn_use (hfs : from_.size ≤ 9223372036854775807) (hts : to_.size ≤ 9223372036854775807) : WUse 80 (rnCaps B) (RnJ from_ to_ B) (B + 3) (rnStep from_ to_) (fun _ => 0) where
  le := fun s g nm => Nat.zero_le _
  lt := fun h => h.lt
  keep := fun h _ hk => h.keep hk
  cf := cf_rn1
  call := fun s g k F W nm hn hc hJ hM hF => (rn1_any hfs hts s g k F W nm hJ hM).mono (by rintro e W' ⟨h1, h2, h3⟩; exact ⟨h1, F, h2, h3⟩)
end Rn
end Go.Proofs.Ytjbgdaojhdobkaa

/-
  Rename: what is caught, in plain Lean.
-/
namespace Go.Proofs.Ytjbgdaojhdobkaa
set_option linter.unusedSimpArgs false
set_option linter.unusedVariables false
namespace Rn
open Fm
variable {fr to_ : ByteArray}

theorem fold_cap (g : ByteArray → Int) (l : List ByteArray) : ∀ c : Bool, l.foldl (fun s nm => rnStep fr to_ s g nm) c = (c || (decide (g fr = 0) && (decide (0 < g to_) && decide (fr ∈ l)))) := by
  induction l with
  | nil => intro c; simp
  | cons a l ih =>
    intro c
    rw [List.foldl_cons, ih]
    unfold rnStep
    by_cases h3 : a = fr
    · subst h3
      by_cases h1 : g a = 0 <;> by_cases h2 : 0 < g to_ <;> simp [h1, h2]
    · have h4 : ¬ fr = a := fun e => h3 e.symm
      by_cases h1 : g fr = 0 <;> by_cases h2 : 0 < g to_ <;> simp [h1, h2, h3, h4, List.mem_cons]
theorem incG_pos {g : ByteArray → Int} {x n : ByteArray} (h : 0 < g x) : 0 < incG g n x := by
  unfold incG
  split
  · rename_i e; subst e; omega
  · exact h
theorem incG_nn {g : ByteArray → Int} {n : ByteArray} (h : ∀ x, 0 ≤ g x) : ∀ x, 0 ≤ incG g n x := fun x => by unfold incG; have := h n; have := h x; split <;> omega
theorem cap_none (f : Fo) : ∀ (g : ByteArray → Int) (c : Bool), 0 < g fr → walkS (rnStep fr to_) f g c = c := by
  induction f with
  | odd => intro g c h; rfl
  | truth b => intro g c h; rfl
  | atom l e r => intro g c h; unfold walkS; rw [fold_cap, fold_cap]; simp [show ¬ g fr = 0 by omega]
  | not f ih => intro g c h; exact ih g c h
  | and l r il ir => intro g c h; unfold walkS; rw [il g c h, ir g c h]
  | or l r il ir => intro g c h; unfold walkS; rw [il g c h, ir g c h]
  | implies l r il ir => intro g c h; unfold walkS; rw [il g c h, ir g c h]
  | iff l r il ir => intro g c h; unfold walkS; rw [il g c h, ir g c h]
  | quant a n f ih => intro g c h; exact ih _ c (incG_pos h)
theorem capT_mk (h : Hd) (ks : List Tr) (ins : Bool) : capT fr to_ (.mk h ks) ins = if h.k = 2 then (ins && decide (h.name = fr)) else if h.k = 15 ∧ h.name = fr then false else capL fr to_ ks (ins || (decide (h.k = 15) && decide (h.name = to_))) := by conv => lhs; unfold capT
theorem capT_in {h : Hd} {ks : List Tr} (ins : Bool) (hk : h.k ≠ 2 ∧ h.k ≠ 15) : capT fr to_ (.mk h ks) ins = capL fr to_ ks ins := by
  rw [capT_mk, if_neg hk.1, if_neg (fun e => hk.2 e.1)]; simp [hk.2]
theorem capL_one (a : Tr) (ins : Bool) : capL fr to_ [a] ins = capT fr to_ a ins := by rw [capL_cons, capL_nil, Bool.or_false]
theorem capL_two (a b : Tr) (ins : Bool) : capL fr to_ [a, b] ins = (capT fr to_ a ins || capT fr to_ b ins) := by rw [capL_cons, capL_one]
theorem cap_tm {t : Tr} {tm : Tm} (h : RT t tm) : ∀ ins : Bool, capT fr to_ t ins = (ins && decide (fr ∈ namesT tm)) := by
  induction h with
  | num h hk => intro ins; rw [capT_in ins (by omega), capL_nil]; simp [namesT]
  | name h hk => intro ins; rw [capT_mk, if_pos hk]; simp [namesT, eq_comm]
  | add h a b p q hk ha hb ia ib => intro ins; rw [capT_in ins (by omega), capL_two, ia, ib]; show _ = (ins && decide (fr ∈ namesT p ++ namesT q)); cases ins <;> simp [List.mem_append]
  | sub h a b p q hk ha hb ia ib => intro ins; rw [capT_in ins (by omega), capL_two, ia, ib]; show _ = (ins && decide (fr ∈ namesT p ++ namesT q)); cases ins <;> simp [List.mem_append]
  | mul h a b p q hk ha hb ia ib => intro ins; rw [capT_in ins (by omega), capL_two, ia, ib]; show _ = (ins && decide (fr ∈ namesT p ++ namesT q)); cases ins <;> simp [List.mem_append]
  | neg h a p hk ha ia => intro ins; rw [capT_in ins (by omega), capL_one, ia]; rfl
  | pow h a p hk he ha ia => intro ins; rw [capT_in ins (by omega), capL_one, ia]; rfl
/-- what the program finds by its walk is what the reference finds in the tree -/
theorem cap_fo {t : Tr} {f : Fo} (h : RF t f) : ∀ (g : ByteArray → Int) (c : Bool), g fr = 0 → (∀ x, 0 ≤ g x) → walkS (rnStep fr to_) f g c = (c || capT fr to_ t (decide (0 < g to_))) := by
  induction h with
  | truth h hk => intro g c h0 hn; rw [capT_in _ (by omega), capL_nil]; simp [walkS]
  | atom h a b p q hk hr ha hb =>
    intro g c h0 hn
    rw [capT_in _ (by omega), capL_two, cap_tm ha, cap_tm hb]
    unfold walkS
    rw [fold_cap, fold_cap]
    simp only [h0]
    cases c <;> cases decide (0 < g to_) <;> simp
  | not h a p hk ha ia => intro g c h0 hn; rw [capT_in _ (by omega), capL_one]; exact ia g c h0 hn
  | and h a b p q hk ha hb ia ib => intro g c h0 hn; rw [capT_in _ (by omega), capL_two]; unfold walkS; rw [ia g c h0 hn, ib g _ h0 hn, Bool.or_assoc]
  | or h a b p q hk ha hb ia ib => intro g c h0 hn; rw [capT_in _ (by omega), capL_two]; unfold walkS; rw [ia g c h0 hn, ib g _ h0 hn, Bool.or_assoc]
  | implies h a b p q hk ha hb ia ib => intro g c h0 hn; rw [capT_in _ (by omega), capL_two]; unfold walkS; rw [ia g c h0 hn, ib g _ h0 hn, Bool.or_assoc]
  | iff h a b p q hk ha hb ia ib => intro g c h0 hn; rw [capT_in _ (by omega), capL_two]; unfold walkS; rw [ia g c h0 hn, ib g _ h0 hn, Bool.or_assoc]
  | quant h a p hk ha ia =>
    intro g c h0 hn
    rw [capT_mk, if_neg (by omega)]
    show walkS (rnStep fr to_) p (incG g h.name) c = _
    by_cases e : h.name = fr
    · rw [if_pos ⟨hk, e⟩, cap_none p _ c (by unfold incG; rw [if_pos e.symm, e, h0]; omega), Bool.or_false]
    · rw [if_neg (fun x => e x.2), capL_one, ia (incG g h.name) c (by unfold incG; rw [if_neg (fun x => e x.symm)]; exact h0) (incG_nn hn)]
      congr 2
      by_cases e2 : h.name = to_
      · subst e2
        have := hn h.name
        simp [incG, hk]; omega
      · have e3 : incG g h.name to_ = g to_ := by unfold incG; rw [if_neg (fun x => e2 x.symm)]
        rw [e3]; simp [e2]


mutual
def renT (fr to_ : ByteArray) : Tr → Tr
  | .mk h ks => if h.k = 15 ∧ h.name = fr then .mk h ks else .mk (if h.k = 2 ∧ h.name = fr then { h with name := to_ } else h) (renL fr to_ ks)
def renL (fr to_ : ByteArray) : List Tr → List Tr
  | [] => []
  | k :: ks => renT fr to_ k :: renL fr to_ ks
end
theorem renL_map (ks : List Tr) : renL fr to_ ks = ks.map (renT fr to_) := by
  induction ks with
  | nil => unfold renL; rfl
  | cons k ks ih => unfold renL; rw [ih]; rfl
theorem renT_mk (h : Hd) (ks : List Tr) : renT fr to_ (.mk h ks) = if h.k = 15 ∧ h.name = fr then .mk h ks else .mk (if h.k = 2 ∧ h.name = fr then { h with name := to_ } else h) (ks.map (renT fr to_)) := by
  conv => lhs; unfold renT
  rw [renL_map]
/-- renaming a term -/
def renTm (fr to_ : ByteArray) : Tm → Tm
  | .name s => .name (if s = fr then to_ else s)
  | .add l r => .add (renTm fr to_ l) (renTm fr to_ r)
  | .sub l r => .sub (renTm fr to_ l) (renTm fr to_ r)
  | .mul l r => .mul (renTm fr to_ l) (renTm fr to_ r)
  | .neg t => .neg (renTm fr to_ t)
  | .pow t e => .pow (renTm fr to_ t) e
  | t => t
/-- renaming a formula -/
def renF (fr to_ : ByteArray) : Fo → Fo
  | .atom l e r => .atom (renTm fr to_ l) e (renTm fr to_ r)
  | .not f => .not (renF fr to_ f)
  | .and l r => .and (renF fr to_ l) (renF fr to_ r)
  | .or l r => .or (renF fr to_ l) (renF fr to_ r)
  | .implies l r => .implies (renF fr to_ l) (renF fr to_ r)
  | .iff l r => .iff (renF fr to_ l) (renF fr to_ r)
  | .quant a n f => if n = fr then .quant a n f else .quant a n (renF fr to_ f)
  | f => f
theorem ren_no {h : Hd} {ks : List Tr} (hk : h.k ≠ 2 ∧ h.k ≠ 15) : renT fr to_ (.mk h ks) = .mk h (ks.map (renT fr to_)) := by
  rw [renT_mk, if_neg (fun e => hk.2 e.1), if_neg (fun e => hk.1 e.1)]
theorem ren_tm {t : Tr} {tm : Tm} (h : RT t tm) : RT (renT fr to_ t) (renTm fr to_ tm) := by
  induction h with
  | num h hk => rw [ren_no (by omega)]; exact .num h hk
  | name h hk =>
    rw [renT_mk, if_neg (by omega)]
    by_cases e : h.name = fr
    · rw [if_pos ⟨hk, e⟩]
      have : renTm fr to_ (.name h.name) = .name to_ := by unfold renTm; rw [if_pos e]
      rw [this]
      exact .name { h with name := to_ } hk
    · rw [if_neg (fun x => e x.2)]
      have : renTm fr to_ (.name h.name) = .name h.name := by unfold renTm; rw [if_neg e]
      rw [this]
      exact .name h hk
  | add h a b p q hk ha hb ia ib => rw [ren_no (by omega)]; exact .add h _ _ _ _ hk ia ib
  | sub h a b p q hk ha hb ia ib => rw [ren_no (by omega)]; exact .sub h _ _ _ _ hk ia ib
  | mul h a b p q hk ha hb ia ib => rw [ren_no (by omega)]; exact .mul h _ _ _ _ hk ia ib
  | neg h a p hk ha ia => rw [ren_no (by omega)]; exact .neg h _ _ hk ia
  | pow h a p hk he ha ia => rw [ren_no (by omega)]; exact .pow h _ _ hk he ia
theorem ren_fo {t : Tr} {f : Fo} (h : RF t f) : RF (renT fr to_ t) (renF fr to_ f) := by
  induction h with
  | truth h hk => rw [ren_no (by omega)]; exact .truth h hk
  | atom h a b p q hk hr ha hb => rw [ren_no (by omega)]; exact .atom h _ _ _ _ hk hr (ren_tm ha) (ren_tm hb)
  | not h a p hk ha ia => rw [ren_no (by omega)]; exact .not h _ _ hk ia
  | and h a b p q hk ha hb ia ib => rw [ren_no (by omega)]; exact .and h _ _ _ _ hk ia ib
  | or h a b p q hk ha hb ia ib => rw [ren_no (by omega)]; exact .or h _ _ _ _ hk ia ib
  | implies h a b p q hk ha hb ia ib => rw [ren_no (by omega)]; exact .implies h _ _ _ _ hk ia ib
  | iff h a b p q hk ha hb ia ib => rw [ren_no (by omega)]; exact .iff h _ _ _ _ hk ia ib
  | quant h a p hk ha ia =>
    rw [renT_mk]
    by_cases e : h.name = fr
    · rw [if_pos ⟨hk, e⟩]
      have : renF fr to_ (.quant h.all h.name p) = .quant h.all h.name p := by unfold renF; rw [if_pos e]
      rw [this]
      exact .quant h _ _ hk ha
    · rw [if_neg (fun x => e x.2), if_neg (by omega)]
      have : renF fr to_ (.quant h.all h.name p) = .quant h.all h.name (renF fr to_ p) := by conv => lhs; unfold renF; rw [if_neg e]
      rw [this]
      exact .quant h _ _ hk ia
end Rn
end Go.Proofs.Ytjbgdaojhdobkaa

/-
  The reference's renamed: where it gives the tree back as it is.
-/
namespace Go.Proofs.Ytjbgdaojhdobkaa
open Go.RowKit
set_option linter.unusedSimpArgs false
set_option linter.unusedVariables false
namespace Rn
open Fm
attribute [local go_sem] run_store

theorem name_eq (a b : ByteArray) : (a.toList == b.toList) = decide (a = b) := by
  by_cases e : a = b
  · subst e; simp
  · rw [decide_eq_false e]; exact (Lib.bytes_beq_false_iff _ _).2 e
/-- a tree that lies in the old memory or in new -/
def RnPost (S : Nat → Prop) (T : Tr) (w : World) (e : Ending) (w' : World) : Prop :=
  ∃ A1 n1 c1 A2 n2 c2, e = .returned (.agg #[.int .i64 T.h.k, .bool T.h.neg, .slice A1 n1 c1, .string T.h.name, .int .i64 T.h.exp, .int .i64 T.h.rel, .bool T.h.truth, .bool T.h.all, .slice A2 n2 c2]) ∧ TreeAt w' (fun b => S b ∨ (w.heap.size ≤ b ∧ b < w'.heap.size)) T (hdC T.h (.slice A1 n1 c1) (.slice A2 n2 c2)) ∧ Below w.heap.size w w'

set_option maxRecDepth 100000 in
set_option maxHeartbeats 8000000 in
theorem ren_ret (fr to_ : ByteArray) (h : Hd) (ks : List Tr) (hk : h.k = 15) (hn : h.name = fr) (cs : List Value) (S : Nat → Prop) (w : World) (hS : ∀ b, S b → b < w.heap.size) (hT : TreeAt w S (.mk h ks) cs) :
    Calls Try.prog 83 #[.agg cs.toArray, .string fr, .string to_] w (RnPost S (renT fr to_ (.mk h ks)) w) := by
  have hT0 := hT
  obtain ⟨A1, n1, c1, A2, K, c2, xs, rfl, hK, hKc, hK64, hn1', hnm, hab, hks, htr⟩ := hT.mkN
  have e : renT fr to_ (.mk h ks) = .mk h ks := by rw [renT_mk, if_pos ⟨hk, hn⟩]
  rw [e]
  have HT := Lib.hid hT0
  have f15 : (h.k == 15) = true := by simpa using hk
  have nf : (h.name.toList == fr.toList) = true := by rw [hn]; simp
  clear hab hks htr hT hT0 hK hk hn e hn1' hnm
  unfold hdC
  go_enter Try.func83, Try.ntmps83
  go_wp2
  have hx := Box.second w (.cells #[.int .i64 h.k, .bool h.neg, .slice A1 n1 c1, .string h.name, .int .i64 h.exp, .int .i64 h.rel, .bool h.truth, .bool h.all, .slice A2 K c2] TT) #[.int .i64 h.k, .bool h.neg, .slice A1 n1 c1, .string h.name, .int .i64 h.exp, .int .i64 h.rel, .bool h.truth, .bool h.all, .slice A2 K c2] TT
  have xc := hx.cell
  have xf := hx.fz
  have hb : Below w.heap.size w ((w.alloc (.cells #[.int .i64 h.k, .bool h.neg, .slice A1 n1 c1, .string h.name, .int .i64 h.exp, .int .i64 h.rel, .bool h.truth, .bool h.all, .slice A2 K c2] TT)).alloc (.cells #[.int .i64 h.k, .bool h.neg, .slice A1 n1 c1, .string h.name, .int .i64 h.exp, .int .i64 h.rel, .bool h.truth, .bool h.all, .slice A2 K c2] TT)) := hx.below
  refine bodyPost_ret (v := .agg #[.int .i64 h.k, .bool h.neg, .slice A1 n1 c1, .string h.name, .int .i64 h.exp, .int .i64 h.rel, .bool h.truth, .bool h.all, .slice A2 K c2]) (by simp [results, Try.results83, go_sem, xc, xf]) rfl ?_
  exact ⟨A1, n1, c1, A2, K, c2, rfl, TreeAt.more (fun b h => .inl h) _ _ (HT.out.below hS hb), hb⟩

/-! ### the loop's relation -/
abbrev FxS (S : Nat → Prop) (w : World) (vk : Value) (wr : World) : Nat → Prop := fun b => S b ∨ Fx w vk wr b
def RenRel (S : Nat → Prop) (w wr : World) (i : Nat) (done : List Tr) (vk : Value) : Prop := ∃ xs, wr.ownsRow (w.heap.size + 3) TT 9 vk i xs ∧ TrsC wr (FxS S w vk wr) done xs
theorem RenRel.set {S : Nat → Prop} {w wr : World} {i : Nat} {done : List Tr} {vk : Value} (hS : ∀ b, S b → b < w.heap.size) (h : RenRel S w wr i done vk) {X j : Nat} (hX : w.heap.size ≤ X ∧ X < w.heap.size + 3) (u : Value) : RenRel S w (wr.setCell ⟨X, j, none⟩ u) i done vk := by
  obtain ⟨xs, h1, h2⟩ := h
  have hs : (wr.setCell ⟨X, j, none⟩ u).heap.size = wr.heap.size := by simp
  refine ⟨xs, ownsRow_setCell_below h1 hX.2 u, TrsC.more (fun b hb => ?_) _ _ (h2.setCell u (fun hh => ?_))⟩
  · rcases hb with hb | hb
    · exact .inl hb
    · exact .inr ⟨hb.1, by rw [hs]; exact hb.2.1, hb.2.2⟩
  · rcases hh with hh | hh
    · have := hS X hh; omega
    · have := hh.1; omega
theorem RenRel.step {S : Nat → Prop} {w wr w2 w4 : World} {ob : Obj} {i g cap : Nat} {done : List Tr} {vk : Value} {T : Tr} {cs xs : List Value} (hS : ∀ b, S b → b < w.heap.size) (h1 : wr.ownsRow (w.heap.size + 3) TT 9 vk i xs) (h2 : TrsC wr (FxS S w vk wr) done xs) (hsz : w.heap.size + 3 ≤ wr.heap.size)
    (hb2 : Below wr.heap.size wr w2) (hT : TreeAt w2 (fun b => S b ∨ (wr.heap.size ≤ b ∧ b < w2.heap.size)) T cs) (ho : w4.ownsRow (w.heap.size + 3) TT 9 (.slice (some ⟨g, 0, none⟩) (i + 1) cap) (i + 1) (xs ++ cs)) (hg : (w2.alloc ob).grownBy w4 vk.ownBlock) (hat : vk.ownBlock = some g ∨ g = w2.heap.size + 1) :
    RenRel S w w4 (i + 1) (done ++ [T]) (.slice (some ⟨g, 0, none⟩) (i + 1) cap) := by
  have hb3 : Below wr.heap.size wr (w2.alloc ob) := hb2.alloc hb2.size ob
  have hs3 := hb3.size
  have hs2 := hb2.size
  have hsa : (w2.alloc ob).heap.size = w2.heap.size + 1 := by simp
  have hs4 := hg.size
  have hal : Below w2.heap.size w2 (w2.alloc ob) := (Below.refl _ w2).alloc (Nat.le_refl _) ob
  have hrow : ∀ k, vk.ownBlock = some k → w.heap.size + 3 ≤ k ∧ k < wr.heap.size := fun k hk => h1.lt k hk
  have hgl : w.heap.size + 3 ≤ g := by rcases hat with h | h; exact (hrow g h).1; omega
  have k1 : ∀ p : Addr, FxS S w vk wr p.block → w4.cell? p = wr.cell? p := fun p hp => by
    have hlt : p.block < wr.heap.size := by
      rcases hp with hp | hp
      · have := hS _ hp; omega
      · exact hp.2.1
    have hne : some p.block ≠ vk.ownBlock := fun e => by
      rcases hp with hp | hp
      · have := hS _ hp; have := (hrow _ e.symm).1; omega
      · exact hp.2.2 e.symm
    exact (World.cell?_of_block (hg.block p.block (by omega) hne)).trans (hb3.cell hlt)
  have m1 : ∀ b, FxS S w vk wr b → FxS S w (.slice (some ⟨g, 0, none⟩) (i + 1) cap) w4 b := fun b hb => by
    rcases hb with hb | hb
    · exact .inl hb
    · refine .inr ⟨hb.1, by have := hb.2.1; omega, fun e => ?_⟩
      have e2 : g = b := by simpa [Value.ownBlock] using e
      rcases hat with h | h
      · exact hb.2.2 (by rw [h, e2])
      · have := hb.2.1; omega
  have k2 : ∀ p : Addr, (S p.block ∨ (wr.heap.size ≤ p.block ∧ p.block < w2.heap.size)) → w4.cell? p = w2.cell? p := fun p hp => by
    have hlt : p.block < w2.heap.size := by
      rcases hp with hp | hp
      · have := hS _ hp; omega
      · exact hp.2
    have hne : some p.block ≠ vk.ownBlock := fun e => by
      have h5 := hrow _ e.symm
      rcases hp with hp | hp
      · have := hS _ hp; omega
      · omega
    exact (World.cell?_of_block (hg.block p.block (by omega) hne)).trans (hal.cell hlt)
  have m2 : ∀ b, (S b ∨ (wr.heap.size ≤ b ∧ b < w2.heap.size)) → FxS S w (.slice (some ⟨g, 0, none⟩) (i + 1) cap) w4 b := fun b hb => by
    rcases hb with hb | hb
    · exact .inl hb
    · refine .inr ⟨by omega, by omega, fun e => ?_⟩
      have e2 : g = b := by simpa [Value.ownBlock] using e
      rcases hat with h | h
      · have := hrow _ h; omega
      · omega
  exact ⟨xs ++ cs, ho, TrsC.append (TrsC.more m1 _ _ (TrsC.keep k1 _ _ h2)) (TrsC.one (TreeAt.more m2 _ _ (TreeAt.keep k2 _ _ hT)))⟩
end Rn
end Go.Proofs.Ytjbgdaojhdobkaa
