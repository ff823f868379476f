/-
  The parser: relation, asFormula, large, measure, verdict.
-/
import Derived.Test.YteneobpacobpdaaGreatDoorHy
import Derived.Test.YteneobpacobpdaaGreatDoorPaB
import Derived.Test.YteneobpacobpdaaGreatDoorFmPF
set_option linter.unusedSimpArgs false
set_option linter.unusedVariables false
set_option maxRecDepth 100000
set_option maxHeartbeats 16000000
namespace Go.Proofs.YteneobpacobpdaaGreatDoor
open Go.RowKit
namespace Pa
open Lx Fm Dc
attribute [local go_sem] run_store fieldTok0 fieldTok2
abbrev tAny : TypeId := 20
abbrev tFo : TypeId := 24
abbrev tTe : TypeId := 49
theorem part_some (p : String → Bool) (f : String → String) (x : String) : ∃ m, (Instr.least ([x].partition p).2 <|> Instr.least (([x].partition p).1.map f)) = some m := by
 cases hc : p x <;> simp [List.partition, List.partition.loop, hc, Instr.least]
def lacks (want : Array (String × TypeId)) (got : Array Method) : Bool :=
 match want.toList with
 | [(x, s)] => !(got.any fun m => m.name == x && m.sig == s)
 | _ => false
theorem missing_some {want : Array (String × TypeId)} {got : Array Method} (h : lacks want got = true) : ∃ m, Instr.missingMethod want got = some m := by
 obtain ⟨l⟩ := want
 match l, h with
 | [(x, s)], h =>
  have h' : (got.any fun m => m.name == x && m.sig == s) = false := by simpa [lacks] using h
  unfold Instr.missingMethod
  have e : ((⟨[(x, s)]⟩ : Array (String × TypeId)).toList.filter fun p => !got.any fun m => m.name == p.1 && m.sig == p.2) = [(x, s)] := by
   simp only [List.filter_cons, List.filter_nil, h']; rfl
  simp only [e, List.map_cons, List.map_nil]
  exact part_some _ _ _
theorem zeroFo (w : World) : (zeroValue tFo).run Tryz.prog w = .ok .nilIface w := by kernel_rfl
theorem anF_Num (v : Value) (w : World) : (Instr.typeAssert (.iface 135 v) tAny tFo true).run Tryz.prog w = .ok (.tuple #[.nilIface, .bool false]) w := by
 have key : ∀ W, Tryz.prog.underlying tFo = some (.interface W) → lacks W Tryz.t135.methods = true → (Instr.typeAssert (.iface 135 v) tAny tFo true).run Tryz.prog w = .ok (.tuple #[.nilIface, .bool false]) w := by
  intro W hu hl
  obtain ⟨m, hm⟩ := missing_some hl
  simp [Instr.typeAssert, run_underlying hu, hm, zeroFo]
 exact key _ Tryz.underlying24 (by kernel_rfl)
theorem anT_Num (v : Value) (w : World) : (Instr.typeAssert (.iface 135 v) tAny tTe true).run Tryz.prog w = .ok (.tuple #[.iface 135 v, .bool true]) w := by kernel_rfl
theorem anF_Name (v : Value) (w : World) : (Instr.typeAssert (.iface 47 v) tAny tFo true).run Tryz.prog w = .ok (.tuple #[.nilIface, .bool false]) w := by
 have key : ∀ W, Tryz.prog.underlying tFo = some (.interface W) → lacks W Tryz.t47.methods = true → (Instr.typeAssert (.iface 47 v) tAny tFo true).run Tryz.prog w = .ok (.tuple #[.nilIface, .bool false]) w := by
  intro W hu hl
  obtain ⟨m, hm⟩ := missing_some hl
  simp [Instr.typeAssert, run_underlying hu, hm, zeroFo]
 exact key _ Tryz.underlying24 (by kernel_rfl)
theorem anT_Name (v : Value) (w : World) : (Instr.typeAssert (.iface 47 v) tAny tTe true).run Tryz.prog w = .ok (.tuple #[.iface 47 v, .bool true]) w := by kernel_rfl
theorem anF_Add (v : Value) (w : World) : (Instr.typeAssert (.iface 137 v) tAny tFo true).run Tryz.prog w = .ok (.tuple #[.nilIface, .bool false]) w := by
 have key : ∀ W, Tryz.prog.underlying tFo = some (.interface W) → lacks W Tryz.t137.methods = true → (Instr.typeAssert (.iface 137 v) tAny tFo true).run Tryz.prog w = .ok (.tuple #[.nilIface, .bool false]) w := by
  intro W hu hl
  obtain ⟨m, hm⟩ := missing_some hl
  simp [Instr.typeAssert, run_underlying hu, hm, zeroFo]
 exact key _ Tryz.underlying24 (by kernel_rfl)
theorem anT_Add (v : Value) (w : World) : (Instr.typeAssert (.iface 137 v) tAny tTe true).run Tryz.prog w = .ok (.tuple #[.iface 137 v, .bool true]) w := by kernel_rfl
theorem anF_Sub (v : Value) (w : World) : (Instr.typeAssert (.iface 138 v) tAny tFo true).run Tryz.prog w = .ok (.tuple #[.nilIface, .bool false]) w := by
 have key : ∀ W, Tryz.prog.underlying tFo = some (.interface W) → lacks W Tryz.t138.methods = true → (Instr.typeAssert (.iface 138 v) tAny tFo true).run Tryz.prog w = .ok (.tuple #[.nilIface, .bool false]) w := by
  intro W hu hl
  obtain ⟨m, hm⟩ := missing_some hl
  simp [Instr.typeAssert, run_underlying hu, hm, zeroFo]
 exact key _ Tryz.underlying24 (by kernel_rfl)
theorem anT_Sub (v : Value) (w : World) : (Instr.typeAssert (.iface 138 v) tAny tTe true).run Tryz.prog w = .ok (.tuple #[.iface 138 v, .bool true]) w := by kernel_rfl
theorem anF_Mul (v : Value) (w : World) : (Instr.typeAssert (.iface 139 v) tAny tFo true).run Tryz.prog w = .ok (.tuple #[.nilIface, .bool false]) w := by
 have key : ∀ W, Tryz.prog.underlying tFo = some (.interface W) → lacks W Tryz.t139.methods = true → (Instr.typeAssert (.iface 139 v) tAny tFo true).run Tryz.prog w = .ok (.tuple #[.nilIface, .bool false]) w := by
  intro W hu hl
  obtain ⟨m, hm⟩ := missing_some hl
  simp [Instr.typeAssert, run_underlying hu, hm, zeroFo]
 exact key _ Tryz.underlying24 (by kernel_rfl)
theorem anT_Mul (v : Value) (w : World) : (Instr.typeAssert (.iface 139 v) tAny tTe true).run Tryz.prog w = .ok (.tuple #[.iface 139 v, .bool true]) w := by kernel_rfl
theorem anF_Neg (v : Value) (w : World) : (Instr.typeAssert (.iface 141 v) tAny tFo true).run Tryz.prog w = .ok (.tuple #[.nilIface, .bool false]) w := by
 have key : ∀ W, Tryz.prog.underlying tFo = some (.interface W) → lacks W Tryz.t141.methods = true → (Instr.typeAssert (.iface 141 v) tAny tFo true).run Tryz.prog w = .ok (.tuple #[.nilIface, .bool false]) w := by
  intro W hu hl
  obtain ⟨m, hm⟩ := missing_some hl
  simp [Instr.typeAssert, run_underlying hu, hm, zeroFo]
 exact key _ Tryz.underlying24 (by kernel_rfl)
theorem anT_Neg (v : Value) (w : World) : (Instr.typeAssert (.iface 141 v) tAny tTe true).run Tryz.prog w = .ok (.tuple #[.iface 141 v, .bool true]) w := by kernel_rfl
theorem anF_Pow (v : Value) (w : World) : (Instr.typeAssert (.iface 143 v) tAny tFo true).run Tryz.prog w = .ok (.tuple #[.nilIface, .bool false]) w := by
 have key : ∀ W, Tryz.prog.underlying tFo = some (.interface W) → lacks W Tryz.t143.methods = true → (Instr.typeAssert (.iface 143 v) tAny tFo true).run Tryz.prog w = .ok (.tuple #[.nilIface, .bool false]) w := by
  intro W hu hl
  obtain ⟨m, hm⟩ := missing_some hl
  simp [Instr.typeAssert, run_underlying hu, hm, zeroFo]
 exact key _ Tryz.underlying24 (by kernel_rfl)
theorem anT_Pow (v : Value) (w : World) : (Instr.typeAssert (.iface 143 v) tAny tTe true).run Tryz.prog w = .ok (.tuple #[.iface 143 v, .bool true]) w := by kernel_rfl
theorem anF_Truth (v : Value) (w : World) : (Instr.typeAssert (.iface 75 v) tAny tFo true).run Tryz.prog w = .ok (.tuple #[.iface 75 v, .bool true]) w := by kernel_rfl
theorem anF_Atom (v : Value) (w : World) : (Instr.typeAssert (.iface 51 v) tAny tFo true).run Tryz.prog w = .ok (.tuple #[.iface 51 v, .bool true]) w := by kernel_rfl
theorem anF_Not (v : Value) (w : World) : (Instr.typeAssert (.iface 53 v) tAny tFo true).run Tryz.prog w = .ok (.tuple #[.iface 53 v, .bool true]) w := by kernel_rfl
theorem anF_And (v : Value) (w : World) : (Instr.typeAssert (.iface 94 v) tAny tFo true).run Tryz.prog w = .ok (.tuple #[.iface 94 v, .bool true]) w := by kernel_rfl
theorem anF_Or (v : Value) (w : World) : (Instr.typeAssert (.iface 95 v) tAny tFo true).run Tryz.prog w = .ok (.tuple #[.iface 95 v, .bool true]) w := by kernel_rfl
theorem anF_Implies (v : Value) (w : World) : (Instr.typeAssert (.iface 96 v) tAny tFo true).run Tryz.prog w = .ok (.tuple #[.iface 96 v, .bool true]) w := by kernel_rfl
theorem anF_Iff (v : Value) (w : World) : (Instr.typeAssert (.iface 97 v) tAny tFo true).run Tryz.prog w = .ok (.tuple #[.iface 97 v, .bool true]) w := by kernel_rfl
theorem anF_Quant (v : Value) (w : World) : (Instr.typeAssert (.iface 99 v) tAny tFo true).run Tryz.prog w = .ok (.tuple #[.iface 99 v, .bool true]) w := by kernel_rfl
attribute [local go_sem] anF_Num anF_Name anF_Add anF_Sub anF_Mul anF_Neg anF_Pow anF_Truth anF_Atom anF_Not anF_And anF_Or anF_Implies anF_Iff anF_Quant anT_Num anT_Name anT_Add anT_Sub anT_Mul anT_Neg anT_Pow
def PVAt (w : World) (S : Nat → Prop) : PV → Value → Prop
 | .tm t, v => TmAt w S t v ∧ t ≠ .odd ∧ SmT t
 | .fo f, v => FoAt w S f v ∧ f ≠ .odd ∧ SmF f
theorem PVAt.iface {w : World} {S : Nat → Prop} {x : PV} {v : Value} (h : PVAt w S x v) : ∃ u z, v = .iface u z := by
 cases x with
 | tm t => exact h.1.iface h.2.1
 | fo f => exact h.1.iface h.2.1
theorem PVAt.one {w : World} {S : Nat → Prop} {x : PV} {v : Value} (h : PVAt w S x v) : v.oneCell' = true := by obtain ⟨u, z, rfl⟩ := h.iface; rfl
theorem PVAt.owns {W W' : World} {pb mb : Nat} {x : PV} {v : Value} (h : PVAt W (Gp pb mb W) x v) (ho : Owns W W' (Fp pb mb) (Fp pb mb)) : PVAt W' (Gp pb mb W') x v := by
 cases x with
 | tm t => exact ⟨TmAt.more (fun b hb => ⟨Nat.lt_of_lt_of_le hb.1 ho.size, hb.2⟩) _ _ (h.1.owns ho (fun b hb => hb)), h.2⟩
 | fo f => exact ⟨FoAt.more (fun b hb => ⟨Nat.lt_of_lt_of_le hb.1 ho.size, hb.2⟩) _ _ (h.1.owns ho (fun b hb => hb)), h.2⟩
def AsPost (f : Fo) (S : Nat → Prop) (w : World) (e : Ending) (w' : World) : Prop := ∃ u z, e = .returned (.iface u z) ∧ w = w' ∧ PVAt w S (.fo f) (.iface u z)
theorem asFormula_fo (u : TypeId) (z : Value) (w : World) (hy : ∀ w, (Instr.typeAssert (.iface u z) tAny tFo true).run Tryz.prog w = .ok (.tuple #[.iface u z, .bool true]) w) : Calls Tryz.prog 69 #[.iface u z] w fun e w' => e = .returned (.iface u z) ∧ w = w' := by
 go_enter Tryz.func69, Tryz.ntmps69
 go_wp2
 go_ret
 exact ⟨rfl, rfl⟩
theorem asFormula_tm (u : TypeId) (z : Value) (w : World) (hy : ∀ w, (Instr.typeAssert (.iface u z) tAny tFo true).run Tryz.prog w = .ok (.tuple #[.nilIface, .bool false]) w) : Calls Tryz.prog 69 #[.iface u z] w fun e w' => e = .returned (.iface tTruth (.agg #[.bool false])) ∧ w = w' := by
 go_enter Tryz.func69, Tryz.ntmps69
 go_wp2
 go_ret
 exact ⟨rfl, rfl⟩
theorem PVAt.isF {w : World} {S : Nat → Prop} {f : Fo} {v : Value} (h : PVAt w S (.fo f) v) : ∃ u z, v = .iface u z ∧ ∀ w, (Instr.typeAssert (.iface u z) tAny tFo true).run Tryz.prog w = .ok (.tuple #[.iface u z, .bool true]) w := by
 obtain ⟨h, hne, -⟩ := h
 cases f with
 | odd => exact absurd rfl hne
 | truth b => obtain rfl := h; exact ⟨_, _, rfl, fun w => anF_Truth _ w⟩
 | atom l r e => obtain ⟨vl, vr, rfl, _⟩ := h; exact ⟨_, _, rfl, fun w => anF_Atom _ w⟩
 | not f => obtain ⟨vf, rfl, _⟩ := h; exact ⟨_, _, rfl, fun w => anF_Not _ w⟩
 | and l r => obtain ⟨vl, vr, rfl, _⟩ := h; exact ⟨_, _, rfl, fun w => anF_And _ w⟩
 | or l r => obtain ⟨vl, vr, rfl, _⟩ := h; exact ⟨_, _, rfl, fun w => anF_Or _ w⟩
 | implies l r => obtain ⟨vl, vr, rfl, _⟩ := h; exact ⟨_, _, rfl, fun w => anF_Implies _ w⟩
 | iff l r => obtain ⟨vl, vr, rfl, _⟩ := h; exact ⟨_, _, rfl, fun w => anF_Iff _ w⟩
 | quant a n f => obtain ⟨vf, rfl, _⟩ := h; exact ⟨_, _, rfl, fun w => anF_Quant _ w⟩
theorem PVAt.isT {w : World} {S : Nat → Prop} {t : Tm} {v : Value} (h : PVAt w S (.tm t) v) : ∃ u z, v = .iface u z ∧ (∀ w, (Instr.typeAssert (.iface u z) tAny tFo true).run Tryz.prog w = .ok (.tuple #[.nilIface, .bool false]) w) ∧ ∀ w, (Instr.typeAssert (.iface u z) tAny tTe true).run Tryz.prog w = .ok (.tuple #[.iface u z, .bool true]) w := by
 obtain ⟨h, hne, -⟩ := h
 cases t with
 | odd => exact absurd rfl hne
 | num n l => obtain ⟨A, k, c, rfl, _⟩ := h; exact ⟨_, _, rfl, fun w => anF_Num _ w, fun w => anT_Num _ w⟩
 | name s => obtain ⟨rfl, _⟩ := h; exact ⟨_, _, rfl, fun w => anF_Name _ w, fun w => anT_Name _ w⟩
 | add l r => obtain ⟨vl, vr, rfl, _⟩ := h; exact ⟨_, _, rfl, fun w => anF_Add _ w, fun w => anT_Add _ w⟩
 | sub l r => obtain ⟨vl, vr, rfl, _⟩ := h; exact ⟨_, _, rfl, fun w => anF_Sub _ w, fun w => anT_Sub _ w⟩
 | mul l r => obtain ⟨vl, vr, rfl, _⟩ := h; exact ⟨_, _, rfl, fun w => anF_Mul _ w, fun w => anT_Mul _ w⟩
 | neg t => obtain ⟨vt, rfl, _⟩ := h; exact ⟨_, _, rfl, fun w => anF_Neg _ w, fun w => anT_Neg _ w⟩
 | pow t e => obtain ⟨vt, rfl, _⟩ := h; exact ⟨_, _, rfl, fun w => anF_Pow _ w, fun w => anT_Pow _ w⟩
theorem asFormula_any (x : PV) (v : Value) (S : Nat → Prop) (w : World) (h : PVAt w S x v) : Calls Tryz.prog 69 #[v] w (AsPost (asF x) S w) := by
 cases x with
 | fo f =>
  obtain ⟨u, z, rfl, hy⟩ := h.isF
  refine (asFormula_fo u z w hy).mono ?_
  rintro e w' ⟨rfl, rfl⟩
  exact ⟨u, z, rfl, rfl, h⟩
 | tm t =>
  obtain ⟨u, z, rfl, hy, -⟩ := h.isT
  refine (asFormula_tm u z w hy).mono ?_
  rintro e w' ⟨rfl, rfl⟩
  exact ⟨_, _, rfl, rfl, rfl, by simp [asF], trivial⟩
theorem rel_any (t : Tok) (w : World) : Calls Tryz.prog 118 #[.agg #[.int .i64 t.kind, .string (bs t.text), .int .i64 t.pos]] w fun e w' => e = .returned (.int .i64 (relOf t)) ∧ Below w.heap.size w w' := by
 have HB := h_ (fun o => (Below.refl w.heap.size w).alloc (Nat.le_refl _) o)
 obtain ⟨R, hR⟩ : ∃ R, R = relOf t := ⟨_, rfl⟩
 obtain ⟨k, hk⟩ : ∃ k : Int, k = (t.kind : Int) := ⟨_, rfl⟩
 rw [← hR, ← hk]
 unfold relOf at hR
 by_cases h4 : t.kind = 4
 ·rw [if_pos h4] at hR
  obtain rfl : k = 4 := by rw [hk, h4]; rfl
  clear hk h4
  by_cases h1 : t.text = [60]
  ·rw [if_pos h1] at hR
   have hy : bs t.text = ⟨#[60]⟩ := by rw [h1]; rfl
   rw [hy]
   subst hR
   clear hy h1
   go_enter Tryz.func118, Tryz.ntmps118
   go_wp2
   go_ret
   exact ⟨rfl, HB.out _⟩
  rw [if_neg h1] at hR
  by_cases h2 : t.text = [60, 61]
  ·rw [if_pos h2] at hR
   have hy : bs t.text = ⟨#[60, 61]⟩ := by rw [h2]; rfl
   rw [hy]
   subst hR
   clear hy h1 h2
   go_enter Tryz.func118, Tryz.ntmps118
   go_wp2
   go_ret
   exact ⟨rfl, HB.out _⟩
  rw [if_neg h2] at hR
  by_cases h3 : t.text = [61]
  ·rw [if_pos h3] at hR
   have hy : bs t.text = ⟨#[61]⟩ := by rw [h3]; rfl
   rw [hy]
   subst hR
   clear hy h1 h2 h3
   go_enter Tryz.func118, Tryz.ntmps118
   go_wp2
   go_ret
   exact ⟨rfl, HB.out _⟩
  rw [if_neg h3] at hR
  by_cases h4 : t.text = [60, 62]
  ·rw [if_pos h4] at hR
   have hy : bs t.text = ⟨#[60, 62]⟩ := by rw [h4]; rfl
   rw [hy]
   subst hR
   clear hy h1 h2 h3 h4
   go_enter Tryz.func118, Tryz.ntmps118
   go_wp2
   go_ret
   exact ⟨rfl, HB.out _⟩
  rw [if_neg h4] at hR
  by_cases h5 : t.text = [62, 61]
  ·rw [if_pos h5] at hR
   have hy : bs t.text = ⟨#[62, 61]⟩ := by rw [h5]; rfl
   rw [hy]
   subst hR
   clear hy h1 h2 h3 h4 h5
   go_enter Tryz.func118, Tryz.ntmps118
   go_wp2
   go_ret
   exact ⟨rfl, HB.out _⟩
  rw [if_neg h5] at hR
  by_cases h6 : t.text = [62]
  ·rw [if_pos h6] at hR
   have hy : bs t.text = ⟨#[62]⟩ := by rw [h6]; rfl
   rw [hy]
   subst hR
   clear hy h1 h2 h3 h4 h5 h6
   go_enter Tryz.func118, Tryz.ntmps118
   go_wp2
   go_ret
   exact ⟨rfl, HB.out _⟩
  rw [if_neg h6] at hR
  obtain ⟨y, hy⟩ : ∃ y, y = bs t.text := ⟨_, rfl⟩
  rw [← hy]
  have e1 : (y.toList == [60]) = false := by rw [hy, bs_toList]; simpa using h1
  have e2 : (y.toList == [60, 61]) = false := by rw [hy, bs_toList]; simpa using h2
  have e3 : (y.toList == [61]) = false := by rw [hy, bs_toList]; simpa using h3
  have e4 : (y.toList == [60, 62]) = false := by rw [hy, bs_toList]; simpa using h4
  have e5 : (y.toList == [62, 61]) = false := by rw [hy, bs_toList]; simpa using h5
  have e6 : (y.toList == [62]) = false := by rw [hy, bs_toList]; simpa using h6
  subst hR
  clear hy h1 h2 h3 h4 h5 h6
  go_enter Tryz.func118, Tryz.ntmps118
  go_wp2
  go_ret
  exact ⟨rfl, HB.out _⟩
 ·rw [if_neg h4] at hR
  have e4 : (k != 4) = true := by simp; omega
  subst hR
  clear hk h4
  go_enter Tryz.func118, Tryz.ntmps118
  go_wp2
  go_ret
  exact ⟨rfl, HB.out _⟩
theorem lgI (d g : Nat) : (decide ((8 : Int) < (d : Int)) || decide ((320 : Int) < (g : Int))) = (decide (8 < d) || decide (320 < g)) := by
 rw [Bool.eq_iff_iff]; simp; omega
theorem large_any (t : Tm) (v : Value) (S : Nat → Prop) (w : World) (hS : ∀ b, S b → b < w.heap.size) (hT : TmAt w S t v) (hs : SmT t) : Calls Tryz.prog 124 #[v] w fun e w' => e = .returned (.bool (large t)) ∧ Below w.heap.size w w' := by
 have HD := h_ (deg_any t v S w hS hT hs)
 have HW := h_ (fun w' (hb : Below w.heap.size w w') => wgt_any t v S w' (fun b h => Nat.lt_of_lt_of_le (hS b h) hb.size) (hT.below hS hb) hs)
 have hov := hT.one
 obtain ⟨d, hd⟩ : ∃ d, d = degT t := ⟨_, rfl⟩
 obtain ⟨g, hg⟩ : ∃ g, g = wgtT t := ⟨_, rfl⟩
 have hL : large t = (decide (8 < d) || decide (320 < g)) := by rw [hd, hg]; rfl
 rw [hL]
 rw [← hd] at HD
 rw [← hg] at HW
 clear hS hT hs hL hd hg
 by_cases h8 : 8 < d
 ·have e8 : decide (8 < d) = true := by simpa using h8
  rw [e8, Bool.true_or]
  go_enter Tryz.func124, Tryz.ntmps124
  go_wp2_with fail
  refine HD.out.mono ?_
  rintro e w1 ⟨rfl, hb⟩
  have HB := h_ hb
  clear hb
  go_wp2
  go_ret
  exact ⟨rfl, HB.out⟩
 ·have e8 : decide (8 < d) = false := by simpa using h8
  rw [e8, Bool.false_or]
  have hle : d ≤ 8 := by omega
  clear e8 h8
  by_cases hg : 320 < g
  ·have eg : decide (320 < g) = true := by simpa using hg
   rw [eg]
   go_enter Tryz.func124, Tryz.ntmps124
   go_wp2_with fail
   refine HD.out.mono ?_
   rintro e w1 ⟨rfl, hb⟩
   have HB := h_ hb
   clear hb
   go_wp2_with fail
   refine (HW.out _ HB.out).mono ?_
   rintro e w2 ⟨rfl, hb⟩
   have HB2 := h_ (HB.out.trans (hb.mono HB.out.size))
   clear hb
   go_wp2
   go_ret
   exact ⟨congrArg (fun b => Ending.returned (.bool b)) ((lgI d g).trans (by simp; omega)), HB2.out⟩
  ·have eg : decide (320 < g) = false := by simpa using hg
   have hgl : g ≤ 320 := by omega
   rw [eg]
   clear eg hg
   go_enter Tryz.func124, Tryz.ntmps124
   go_wp2_with fail
   refine HD.out.mono ?_
   rintro e w1 ⟨rfl, hb⟩
   have HB := h_ hb
   clear hb
   go_wp2_with fail
   refine (HW.out _ HB.out).mono ?_
   rintro e w2 ⟨rfl, hb⟩
   have HB2 := h_ (HB.out.trans (hb.mono HB.out.size))
   clear hb
   go_wp2
   go_ret
   exact ⟨congrArg (fun b => Ending.returned (.bool b)) ((lgI d g).trans (by simp; omega)), HB2.out⟩
theorem measure_any (B pb mb n c : Nat) (T : List Tok) (A : Option Addr) (s : PS) (tk : Tok) (whole : Tm) (vw : Value) (ops : List Tm) (vs : List Value) (ob k : Nat) (hk : k = ops.length) (hk2 : k = vs.length) (S : Nat → Prop) (w : World) (hS : ∀ b, S b → b < w.heap.size) (h : PAt B pb mb T A n c s w)
  (hw : TmAt w S whole vw) (hws : SmT whole) (hob : w.heap[ob]? = some (.cells vs.toArray tTe (0, 0))) (hops : ∀ (i : Nat) (t : Tm), ops[i]? = some t → ∃ v : Value, vs[i]? = some v ∧ TmAt w S t v ∧ SmT t) (hk3 : k ≤ 2) :
  Calls Tryz.prog 122 #[.pointer (some ⟨pb, 0, none⟩), .agg #[.int .i64 tk.kind, .string (bs tk.text), .int .i64 tk.pos], vw, .slice (some ⟨ob, 0, none⟩) k k] w fun e w' => e = .returned (.tuple #[]) ∧ PAt B pb mb T A n c (meas s tk whole ops) w' ∧ Owns w w' (Fp pb mb) (Fp pb mb) := by
 obtain ⟨y, hy⟩ : ∃ y, y = bs tk.text := ⟨_, rfl⟩
 rw [← hy]
 clear hy
 have hovw := hw.one
 have hx := Box.new w #[.int .i64 tk.kind, .string y, .int .i64 tk.pos] tTok
 have HX := h_ hx
 have HH := h_ h
 have HS := h_ hS
 have HOB := h_ hob
 have HOPS := h_ hops
 have HK := h_ hk
 have HK2 := h_ hk2
 obtain ⟨L, hL⟩ : ∃ L, L = large whole := ⟨_, rfl⟩
 have HLW := h_ (show Calls Tryz.prog 124 #[vw] (w.alloc (.cells #[.int .i64 tk.kind, .string y, .int .i64 tk.pos] tTok)) fun e w' => e = .returned (.bool L) ∧ Below (w.alloc (.cells #[.int .i64 tk.kind, .string y, .int .i64 tk.pos] tTok)).heap.size (w.alloc (.cells #[.int .i64 tk.kind, .string y, .int .i64 tk.pos] tTok)) w' by rw [hL]; exact large_any whole vw S _ (fun b hb => Nat.lt_of_lt_of_le (hS b hb) hx.below.size) (hw.below hS hx.below) hws)
 have hobl : ob < w.heap.size := (Array.getElem?_eq_some_iff.1 hob).1
 have HL := h_ hL
 clear hx h hS hob hops hk hk2 hL hw hws
 cases L
 ·have HM := h_ (show meas s tk whole ops = s from if_neg (fun e => by rw [← HL.out] at e; cases e.1))
  go_enter Tryz.func122, Tryz.ntmps122
  go_wp2_with fail
  refine HLW.out.mono ?_
  rintro e w1 ⟨rfl, hb⟩
  have HB := h_ (HX.out.step hb).below
  clear hb
  go_wp2
  refine bodyPost_ret (results_none rfl _ _ _) rfl ?_
  exact ⟨rfl, by rw [HM.out]; exact HH.out.below HB.out, Owns.of_below HB.out _⟩
 ·go_enter Tryz.func122, Tryz.ntmps122
  go_wp2_with fail
  refine HLW.out.mono ?_
  rintro e w1 ⟨rfl, hb⟩
  have HX1 := h_ (HX.out.step hb)
  clear hb
  go_wp2_with fail
  go_loopw [15] (fun a_ wr => ∃ (i : Nat), i ≤ k ∧ a_ = .int .i64 i ∧ Hid (Box w wr w.heap.size #[.int .i64 tk.kind, .string y, .int .i64 tk.pos] tTok) ∧ Hid (∀ j t, j < i → ops[j]? = some t → large t = false)) (fun a_ _ => k - (intOf a_).toNat)
  case atStart => exact ⟨0, Nat.zero_le _, rfl, HX1, h_ (fun j t h => absurd h (by omega))⟩
  case round =>
   obtain ⟨i, hi, rfl, hbx, hall⟩ := hrel
   by_cases hlt : i < k
   ·obtain ⟨t, ht⟩ : ∃ t, ops[i]? = some t := ⟨_, List.getElem?_eq_getElem (by rw [← HK.out]; exact hlt)⟩
    obtain ⟨v, hv, hvt, hvs⟩ := HOPS.out i t ht
    have hov := hvt.one
    have hc : wr.cell? ⟨ob, 0 + i, none⟩ = some v := by
     have hb2 := (hbx.out.below.block ob hobl).trans HOB.out
     simp [World.cell?, hb2, hv]
    have hc' : wr.cell? ⟨ob, i, none⟩ = some v := by rw [Nat.zero_add] at hc; exact hc
    obtain ⟨l, hl⟩ : ∃ l, l = large t := ⟨_, rfl⟩
    have HC := h_ (large_any t v S wr (fun b hb => Nat.lt_of_lt_of_le (HS.out b hb) hbx.out.below.size) (hvt.below HS.out hbx.out.below) hvs)
    rw [← hl] at HC
    have HT := h_ ht
    have HLT := h_ hl
    clear ht hv hvt hvs hl
    cases l
    ·go_wp2_with fail
     refine HC.out.mono ?_
     rintro e w2 ⟨rfl, hb⟩
     have HX2 := h_ (hbx.out.step hb)
     clear hb
     go_wp2
     go_roundw
     case rel =>
      refine ⟨i + 1, by omega, by go_num, HX2, h_ (fun j t' hj ht' => ?_)⟩
      rcases Nat.lt_or_eq_of_le (Nat.le_of_lt_succ hj) with h5 | h5
      ·exact hall.out j t' h5 ht'
      ·subst h5
       rw [HT.out] at ht'
       injection ht' with ht'
       rw [← ht']; exact HLT.out.symm
     case measure => simp [intOf]; omega
    ·have HM := h_ (show meas s tk whole ops = s from if_neg (fun e => by
      have := List.all_eq_true.1 e.2 t (List.mem_of_getElem? HT.out)
      rw [← HLT.out] at this; cases this))
     go_wp2_with fail
     refine HC.out.mono ?_
     rintro e w2 ⟨rfl, hb⟩
     have HX2 := h_ (hbx.out.step hb)
     clear hb
     go_wp2
     refine bodyPost_ret (results_none rfl _ _ _) rfl ?_
     exact ⟨rfl, by rw [HM.out]; exact HH.out.below HX2.out.below, Owns.of_below HX2.out.below _⟩
   ·have hik : i = k := by omega
    have HM := h_ (show meas s tk whole ops = exc s tk.pos from if_pos ⟨HL.out.symm, List.all_eq_true.2 (fun t ht => by
     obtain ⟨j, hj⟩ := List.getElem?_of_mem ht
     have hjl := (List.getElem?_eq_some_iff.1 hj).1
     rw [hall.out j t (by rw [hik, HK.out]; exact hjl) hj]; rfl)⟩)
    have g2 : wr.cell? ⟨w.heap.size, 2, none⟩ = some (.int .i64 tk.pos) := hbx.out.cell 2
    have HE := h_ (exceed_any B pb mb n c T A s tk.pos wr (HH.out.below hbx.out.below))
    have HO := h_ (Owns.of_below (F := Fp pb mb) hbx.out.below)
    clear hik
    go_wp2_with fail
    refine HE.out.mono ?_
    rintro e w2 ⟨rfl, h2, ho2⟩
    have H2 := h_ h2
    have HO2 := h_ (HO.out.trans ho2)
    clear h2 ho2
    go_wp2
    go_end0
    exact ⟨rfl, by rw [HM.out]; exact H2.out, HO2.out⟩
def verd (T : List Tok) (ok : Bool) (size : Nat) (s : PS) : Nat × Nat :=
 if s.next < T.length then ((pk T s).pos, 6) else if ok = false then (size, 6) else if s.over = true then (s.off, 8) else (0, 0)
theorem verdict_any (B pb mb n c : Nat) (T : List Tok) (A : Option Addr) (s : PS) (ok : Bool) (size : Nat) (w : World) (h : PAt B pb mb T A n c s w) :
  Calls Tryz.prog 15 #[.pointer (some ⟨pb, 0, none⟩), .bool ok, .int .i64 size] w fun e w' => e = .returned (.tuple #[.int .i64 (verd T ok size s).1, .int .i64 (verd T ok size s).2]) ∧ Below w.heap.size w w' := by
 obtain ⟨c0, c1, c2, c3, c4, c5, c6⟩ := h.cells
 have hlen := h.len
 have HDR2 := h_ (show ∀ j k, Below w.heap.size w ((w.drewN j).drewN k) from fun j k => ⟨rfl, rfl, rfl, Nat.le_refl _, fun _ _ => rfl⟩)
 have HDR := h_ (show ∀ k, Below w.heap.size w (w.drewN k) from fun k => ⟨rfl, rfl, rfl, Nat.le_refl _, fun _ _ => rfl⟩)
 by_cases hlt : s.next < n
 ·obtain ⟨t', b, o, e1, rfl, hb, k0, k1, k2⟩ := h.tok s.next hlt
  have hv : verd T ok size s = (t'.pos, 6) := by
   unfold verd
   rw [if_pos (by rw [← h.hn]; exact hlt)]
   unfold pk
   rw [e1]; rfl
  rw [hv]
  clear h e1 hv
  go_enter Tryz.func15, Tryz.ntmps15
  go_wp2_with fail
  go_quiet (fail)
  go_wp2_with fail
  go_quiet (fail)
  go_wp2
  go_ret2
  exact ⟨rfl, HDR2.out _ _⟩
 ·have hge : n ≤ s.next := by omega
  have hge' : decide (s.next < n) = false := by simpa using hlt
  obtain ⟨v, hv⟩ : ∃ v, v = verd T ok size s := ⟨_, rfl⟩
  obtain ⟨ov, hov⟩ : ∃ ov, ov = s.over := ⟨_, rfl⟩
  have hv2 : v = if ok = false then (size, 6) else if ov = true then (s.off, 8) else (0, 0) := by rw [hv, hov]; unfold verd; rw [if_neg (by rw [← h.hn]; omega)]
  rw [← hv]
  rw [← hov] at c5
  clear h hv hov hlt
  cases ok
  ·obtain rfl : v = (size, 6) := hv2
   go_enter Tryz.func15, Tryz.ntmps15
   go_wp2_with fail
   go_quiet (fail)
   go_wp2
   go_ret2
   exact ⟨rfl, HDR.out _⟩
  ·cases ov
   ·obtain rfl : v = (0, 0) := hv2
    go_enter Tryz.func15, Tryz.ntmps15
    go_wp2_with fail
    go_quiet (fail)
    go_wp2
    go_ret2
    exact ⟨rfl, HDR.out _⟩
   ·obtain rfl : v = (s.off, 8) := hv2
    go_enter Tryz.func15, Tryz.ntmps15
    go_wp2_with fail
    go_quiet (fail)
    go_wp2
    go_ret2
    exact ⟨rfl, HDR.out _⟩
end Pa
end Go.Proofs.YteneobpacobpdaaGreatDoor
