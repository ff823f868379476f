/-
  printer.formulaStrength, relation, writeJoined, writeFormula.
-/
import Derived.Test.YtkjbfomokdjbnaaDoorPrT
namespace Go.Proofs.YtkjbfomokdjbnaaDoor
open Go.RowKit
set_option linter.unusedSimpArgs false
set_option linter.unusedVariables false
namespace Pr
open Fm Dc
attribute [local go_sem] run_store taTruth_yes taTruth_no taTruth_nil taAtom_yes taAtom_no taAtom_nil taNot_yes taNot_no taNot_nil taAnd_yes taAnd_no taAnd_nil taOr_yes taOr_no taOr_nil taImplies_yes taImplies_no taImplies_nil taIff_yes taIff_no taIff_nil taQuant_yes taQuant_no taQuant_nil
def bsL (l : List UInt8) : ByteArray := ⟨l.toArray⟩
theorem formatBool_any (x : Bool) (D : ByteArray) (hD : D = bsL (if x then [116, 114, 117, 101] else [102, 97, 108, 115, 101])) (w : World) : Calls Tryd.prog 52 #[.bool x] w fun e w' => e = .returned (.string D) ∧ w = w' := by
  cases x
  all_goals
    subst hD
    go_enter Tryd.func52, Tryd.ntmps52
    go_wp2
    go_ret
    exact ⟨rfl, rfl⟩
theorem prel_any (r : Int) (D : ByteArray) (hD : D = bsL (relS r)) (w : World) : Calls Tryd.prog 53 #[.int .i64 r] w fun e w' => e = .returned (.string D) ∧ w = w' := by
  unfold relS at hD
  by_cases h1 : r = 1
  · subst h1; subst hD
    go_enter Tryd.func53, Tryd.ntmps53
    go_wp2
    go_ret
    exact ⟨rfl, rfl⟩
  by_cases h2 : r = 2
  · subst h2; subst hD
    go_enter Tryd.func53, Tryd.ntmps53
    go_wp2
    go_ret
    exact ⟨rfl, rfl⟩
  by_cases h3 : r = 4
  · subst h3; subst hD
    go_enter Tryd.func53, Tryd.ntmps53
    go_wp2
    go_ret
    exact ⟨rfl, rfl⟩
  by_cases h4 : r = 5
  · subst h4; subst hD
    go_enter Tryd.func53, Tryd.ntmps53
    go_wp2
    go_ret
    exact ⟨rfl, rfl⟩
  by_cases h5 : r = 6
  · subst h5; subst hD
    go_enter Tryd.func53, Tryd.ntmps53
    go_wp2
    go_ret
    exact ⟨rfl, rfl⟩
  rw [if_neg h1, if_neg h2, if_neg h3, if_neg h4, if_neg h5] at hD
  subst hD
  have e1 : ((r : Int) == 1) = false := by simpa using h1
  have e2 : ((r : Int) == 2) = false := by simpa using h2
  have e3 : ((r : Int) == 4) = false := by simpa using h3
  have e4 : ((r : Int) == 5) = false := by simpa using h4
  have e5 : ((r : Int) == 6) = false := by simpa using h5
  clear h1 h2 h3 h4 h5
  go_enter Tryd.func53, Tryd.ntmps53
  go_wp2
  go_ret
  exact ⟨rfl, rfl⟩

set_option maxRecDepth 100000 in
theorem fstrength_Truth (x : Value) (w : World) : Calls Tryd.prog 48 #[.iface 71 x] w fun e w' => e = .returned (.int .i64 6) ∧ w = w' := by
  go_enter Tryd.func48, Tryd.ntmps48
  go_wp2
  go_ret
  exact ⟨rfl, rfl⟩

set_option maxRecDepth 100000 in
theorem fstrength_Atom (x : Value) (w : World) : Calls Tryd.prog 48 #[.iface 51 x] w fun e w' => e = .returned (.int .i64 6) ∧ w = w' := by
  go_enter Tryd.func48, Tryd.ntmps48
  go_wp2
  go_ret
  exact ⟨rfl, rfl⟩

set_option maxRecDepth 100000 in
theorem fstrength_Not (x : Value) (w : World) : Calls Tryd.prog 48 #[.iface 68 x] w fun e w' => e = .returned (.int .i64 5) ∧ w = w' := by
  go_enter Tryd.func48, Tryd.ntmps48
  go_wp2
  go_ret
  exact ⟨rfl, rfl⟩

set_option maxRecDepth 100000 in
theorem fstrength_And (x : Value) (w : World) : Calls Tryd.prog 48 #[.iface 53 x] w fun e w' => e = .returned (.int .i64 4) ∧ w = w' := by
  go_enter Tryd.func48, Tryd.ntmps48
  go_wp2
  go_ret
  exact ⟨rfl, rfl⟩

set_option maxRecDepth 100000 in
theorem fstrength_Or (x : Value) (w : World) : Calls Tryd.prog 48 #[.iface 94 x] w fun e w' => e = .returned (.int .i64 3) ∧ w = w' := by
  go_enter Tryd.func48, Tryd.ntmps48
  go_wp2
  go_ret
  exact ⟨rfl, rfl⟩

set_option maxRecDepth 100000 in
theorem fstrength_Implies (x : Value) (w : World) : Calls Tryd.prog 48 #[.iface 95 x] w fun e w' => e = .returned (.int .i64 2) ∧ w = w' := by
  go_enter Tryd.func48, Tryd.ntmps48
  go_wp2
  go_ret
  exact ⟨rfl, rfl⟩

set_option maxRecDepth 100000 in
theorem fstrength_Iff (x : Value) (w : World) : Calls Tryd.prog 48 #[.iface 96 x] w fun e w' => e = .returned (.int .i64 1) ∧ w = w' := by
  go_enter Tryd.func48, Tryd.ntmps48
  go_wp2
  go_ret
  exact ⟨rfl, rfl⟩

set_option maxRecDepth 100000 in
theorem fstrength_Quant (x : Value) (w : World) : Calls Tryd.prog 48 #[.iface 98 x] w fun e w' => e = .returned (.int .i64 0) ∧ w = w' := by
  go_enter Tryd.func48, Tryd.ntmps48
  go_wp2
  go_ret
  exact ⟨rfl, rfl⟩

set_option maxHeartbeats 4000000 in
set_option maxRecDepth 100000 in
theorem wj_any (vl vr : Value) (tl tr : List UInt8) (M : ByteArray) (a d : Int) (b c : Nat) (L : List UInt8) (w : World) (hB : Bo b c L w)
    (hL : ∀ l0 w', Bo b c l0 w' → Owns w w' (Fb b c) (Fb b c) → l0.length + tl.length ≤ 140737488355328 → Calls Tryd.prog 27 #[.pointer (some ⟨b, 0, none⟩), vl, .int .i64 a] w' (WtPost b c (l0 ++ tl) w'))
    (hR : ∀ l0 w', Bo b c l0 w' → Owns w w' (Fb b c) (Fb b c) → l0.length + tr.length ≤ 140737488355328 → Calls Tryd.prog 27 #[.pointer (some ⟨b, 0, none⟩), vr, .int .i64 d] w' (WtPost b c (l0 ++ tr) w'))
    (hlen : L.length + (tl ++ M.data.toList ++ tr).length ≤ 140737488355328) :
    Calls Tryd.prog 51 #[.pointer (some ⟨b, 0, none⟩), vl, .string M, vr, .int .i64 a, .int .i64 d] w (WtPost b c (L ++ (tl ++ M.data.toList ++ tr)) w) := by
  have HB0 := Lib.hid hB
  have HLEN := Lib.hid hlen
  have HL := Lib.hid hL
  have HR := Lib.hid hR
  have HO0 := Lib.hid (Owns.refl w (Fb b c))
  clear hB hlen hL hR
  go_enter Tryd.func51, Tryd.ntmps51
  go_wp2_with fail
  refine (HL.out _ _ HB0.out HO0.out (by have := HLEN.out; simp at this ⊢; omega)).mono ?_
  rintro e w1 ⟨rfl, hB, hO, hQ⟩
  have HB1 := Lib.hid hB
  have HO1 := Lib.hid hO
  have HQ1 := Lib.hid hQ
  clear hB hO hQ
  go_wp2_with fail
  refine (wstr_o b c _ _ M.data.toList rfl _ HB1.out (by have := HLEN.out; simp at this ⊢; omega)).mono ?_
  rintro e w2 ⟨rfl, hB, hO, hQ⟩
  have HB2 := Lib.hid hB
  have HO2 := Lib.hid (HO1.out.trans hO)
  have HQ2 := Lib.hid (HQ1.out.trans hQ)
  clear hB hO hQ
  go_wp2_with fail
  refine (HR.out _ _ HB2.out HO2.out (by have := HLEN.out; simp at this ⊢; omega)).mono ?_
  rintro e w3 ⟨rfl, hB, hO, hQ⟩
  have HB3 := Lib.hid hB
  have HO3 := Lib.hid (HO2.out.trans hO)
  have HQ3 := Lib.hid (HQ2.out.trans hQ)
  clear hB hO hQ
  go_wp2
  go_end0
  exact ⟨rfl, by simpa using HB3.out, HO3.out, HQ3.out⟩

set_option maxHeartbeats 4000000 in
set_option maxRecDepth 100000 in
theorem wf_Iff (vl vr : Value) (tl tr : List UInt8) (b c : Nat) (L : List UInt8) (req : Int) (p : Bool) (hp : p = decide ((1 : Int) < req)) (w : World) (hol : vl.oneCell' = true) (hor : vr.oneCell' = true) (hB : Bo b c L w)
    (hL : ∀ l0 w', Bo b c l0 w' → Owns w w' (Fb b c) (Fb b c) → l0.length + tl.length ≤ 140737488355328 → Calls Tryd.prog 27 #[.pointer (some ⟨b, 0, none⟩), vl, .int .i64 1] w' (WtPost b c (l0 ++ tl) w'))
    (hR : ∀ l0 w', Bo b c l0 w' → Owns w w' (Fb b c) (Fb b c) → l0.length + tr.length ≤ 140737488355328 → Calls Tryd.prog 27 #[.pointer (some ⟨b, 0, none⟩), vr, .int .i64 2] w' (WtPost b c (l0 ++ tr) w'))
    (hlen : L.length + (par p (tl ++ [32, 105, 102, 102, 32] ++ tr)).length ≤ 140737488355328) :
    Calls Tryd.prog 27 #[.pointer (some ⟨b, 0, none⟩), .iface 96 (.agg #[vl, vr]), .int .i64 req] w (WtPost b c (L ++ par p (tl ++ [32, 105, 102, 102, 32] ++ tr)) w) := by
  have HB := Lib.hid hB
  have HLEN := Lib.hid hlen
  have HL := Lib.hid hL
  have HR := Lib.hid hR
  clear hB hlen hL hR
  cases p
  · have hd : decide ((1 : Int) < req) = false := hp.symm
    clear hp
    have HB0 := HB
    have HO0 := Lib.hid (Owns.refl w (Fb b c))
    have HQ0 := Lib.hid (Lib.OthersKept.refl 5 (some b) w)
    go_enter Tryd.func27, Tryd.ntmps27
    go_wp2_with fail
    refine (fstrength_Iff _ _).mono ?_
    rintro e w1 ⟨rfl, rfl⟩
    go_wp2_with fail
    have hbel : Below w.heap.size w (w.alloc (.cells #[vl, vr] 96)) := (Below.refl _ _).alloc (Nat.le_refl _) _
    have HB1 := Lib.hid (HB0.out.below hbel)
    have HO1 := Lib.hid (HO0.out.trans (Owns.of_below hbel _))
    have HQ1 := Lib.hid (HQ0.out.trans (others_below (b := b) hbel))
    have HX1 := Lib.hid (heap_alloc_new w (.cells #[vl, vr] 96))
    have HXB := Lib.hid (show w.heap.size ≠ b from fun e => by have := bo_lt HB0.out; omega)
    clear hbel
    refine (wj_any vl vr tl tr _ 1 2 b c _ _ HB1.out (fun l0 w2 h1 h2 h3 => HL.out l0 w2 h1 (HO1.out.trans h2) h3) (fun l0 w2 h1 h2 h3 => HR.out l0 w2 h1 (HO1.out.trans h2) h3) (by have := HLEN.out; simp [par] at this ⊢; omega)).mono ?_
    rintro e wr1 ⟨rfl, hB, hO, hQ⟩
    have HB2 := Lib.hid hB
    have HO2 := Lib.hid (HO1.out.trans hO)
    have HQ2 := Lib.hid (HQ1.out.trans hQ)
    clear hB hO hQ
    go_wp2
    go_end0
    exact ⟨rfl, by simpa [par] using HB2.out, HO2.out, HQ2.out⟩
  · have hd : decide ((1 : Int) < req) = true := hp.symm
    clear hp
    have HB0 := HB
    have HO0 := Lib.hid (Owns.refl w (Fb b c))
    have HQ0 := Lib.hid (Lib.OthersKept.refl 5 (some b) w)
    go_enter_defers Tryd.func27, Tryd.ntmps27
    go_wp2_with fail
    refine (fstrength_Iff _ _).mono ?_
    rintro e w1 ⟨rfl, rfl⟩
    go_wp2_with fail
    refine (wbyte_o b c _ 40 40 rfl _ HB0.out (by have := HLEN.out; simp [par] at this ⊢; omega)).mono ?_
    rintro e wp ⟨rfl, hB, hO, hQ⟩
    have HB1 := Lib.hid hB
    have HO1 := Lib.hid (HO0.out.trans hO)
    have HQ1 := Lib.hid (HQ0.out.trans hQ)
    clear hB hO hQ
    go_wp2_with fail
    have hbel : Below wp.heap.size wp (wp.alloc (.cells #[vl, vr] 96)) := (Below.refl _ _).alloc (Nat.le_refl _) _
    have HB2 := Lib.hid (HB1.out.below hbel)
    have HO2 := Lib.hid (HO1.out.trans (Owns.of_below hbel _))
    have HQ2 := Lib.hid (HQ1.out.trans (others_below (b := b) hbel))
    have HX2 := Lib.hid (heap_alloc_new wp (.cells #[vl, vr] 96))
    have HXB := Lib.hid (show wp.heap.size ≠ b from fun e => by have := bo_lt HB1.out; omega)
    clear hbel
    refine (wj_any vl vr tl tr _ 1 2 b c _ _ HB2.out (fun l0 w2 h1 h2 h3 => HL.out l0 w2 h1 (HO2.out.trans h2) h3) (fun l0 w2 h1 h2 h3 => HR.out l0 w2 h1 (HO2.out.trans h2) h3) (by have := HLEN.out; simp [par] at this ⊢; omega)).mono ?_
    rintro e wr1 ⟨rfl, hB, hO, hQ⟩
    have HB3 := Lib.hid hB
    have HO3 := Lib.hid (HO2.out.trans hO)
    have HQ3 := Lib.hid (HQ2.out.trans hQ)
    clear hB hO hQ
    go_wp2
    refine leaves_cons (f := 49) (args := #[.pointer (some ⟨b, 0, none⟩), .int .u8 41]) (by simp) (by simp [go_sem]) ?_
    refine (wbyte_od b c _ 41 41 rfl .returning _ HB3.out (by have := HLEN.out; simp [par] at this ⊢; omega)).mono ?_
    rintro e u wz ⟨rfl, rfl, hB, hO, hQ⟩
    exact ⟨_, results_none rfl _ _ _, rfl, by simpa [par] using hB, HO3.out.trans hO, HQ3.out.trans hQ⟩

set_option maxHeartbeats 4000000 in
set_option maxRecDepth 100000 in
theorem wf_Implies (vl vr : Value) (tl tr : List UInt8) (b c : Nat) (L : List UInt8) (req : Int) (p : Bool) (hp : p = decide ((2 : Int) < req)) (w : World) (hol : vl.oneCell' = true) (hor : vr.oneCell' = true) (hB : Bo b c L w)
    (hL : ∀ l0 w', Bo b c l0 w' → Owns w w' (Fb b c) (Fb b c) → l0.length + tl.length ≤ 140737488355328 → Calls Tryd.prog 27 #[.pointer (some ⟨b, 0, none⟩), vl, .int .i64 3] w' (WtPost b c (l0 ++ tl) w'))
    (hR : ∀ l0 w', Bo b c l0 w' → Owns w w' (Fb b c) (Fb b c) → l0.length + tr.length ≤ 140737488355328 → Calls Tryd.prog 27 #[.pointer (some ⟨b, 0, none⟩), vr, .int .i64 2] w' (WtPost b c (l0 ++ tr) w'))
    (hlen : L.length + (par p (tl ++ [32, 105, 109, 112, 108, 105, 101, 115, 32] ++ tr)).length ≤ 140737488355328) :
    Calls Tryd.prog 27 #[.pointer (some ⟨b, 0, none⟩), .iface 95 (.agg #[vl, vr]), .int .i64 req] w (WtPost b c (L ++ par p (tl ++ [32, 105, 109, 112, 108, 105, 101, 115, 32] ++ tr)) w) := by
  have HB := Lib.hid hB
  have HLEN := Lib.hid hlen
  have HL := Lib.hid hL
  have HR := Lib.hid hR
  clear hB hlen hL hR
  cases p
  · have hd : decide ((2 : Int) < req) = false := hp.symm
    clear hp
    have HB0 := HB
    have HO0 := Lib.hid (Owns.refl w (Fb b c))
    have HQ0 := Lib.hid (Lib.OthersKept.refl 5 (some b) w)
    go_enter Tryd.func27, Tryd.ntmps27
    go_wp2_with fail
    refine (fstrength_Implies _ _).mono ?_
    rintro e w1 ⟨rfl, rfl⟩
    go_wp2_with fail
    have hbel : Below w.heap.size w (w.alloc (.cells #[vl, vr] 95)) := (Below.refl _ _).alloc (Nat.le_refl _) _
    have HB1 := Lib.hid (HB0.out.below hbel)
    have HO1 := Lib.hid (HO0.out.trans (Owns.of_below hbel _))
    have HQ1 := Lib.hid (HQ0.out.trans (others_below (b := b) hbel))
    have HX1 := Lib.hid (heap_alloc_new w (.cells #[vl, vr] 95))
    have HXB := Lib.hid (show w.heap.size ≠ b from fun e => by have := bo_lt HB0.out; omega)
    clear hbel
    refine (wj_any vl vr tl tr _ 3 2 b c _ _ HB1.out (fun l0 w2 h1 h2 h3 => HL.out l0 w2 h1 (HO1.out.trans h2) h3) (fun l0 w2 h1 h2 h3 => HR.out l0 w2 h1 (HO1.out.trans h2) h3) (by have := HLEN.out; simp [par] at this ⊢; omega)).mono ?_
    rintro e wr1 ⟨rfl, hB, hO, hQ⟩
    have HB2 := Lib.hid hB
    have HO2 := Lib.hid (HO1.out.trans hO)
    have HQ2 := Lib.hid (HQ1.out.trans hQ)
    clear hB hO hQ
    go_wp2
    go_end0
    exact ⟨rfl, by simpa [par] using HB2.out, HO2.out, HQ2.out⟩
  · have hd : decide ((2 : Int) < req) = true := hp.symm
    clear hp
    have HB0 := HB
    have HO0 := Lib.hid (Owns.refl w (Fb b c))
    have HQ0 := Lib.hid (Lib.OthersKept.refl 5 (some b) w)
    go_enter_defers Tryd.func27, Tryd.ntmps27
    go_wp2_with fail
    refine (fstrength_Implies _ _).mono ?_
    rintro e w1 ⟨rfl, rfl⟩
    go_wp2_with fail
    refine (wbyte_o b c _ 40 40 rfl _ HB0.out (by have := HLEN.out; simp [par] at this ⊢; omega)).mono ?_
    rintro e wp ⟨rfl, hB, hO, hQ⟩
    have HB1 := Lib.hid hB
    have HO1 := Lib.hid (HO0.out.trans hO)
    have HQ1 := Lib.hid (HQ0.out.trans hQ)
    clear hB hO hQ
    go_wp2_with fail
    have hbel : Below wp.heap.size wp (wp.alloc (.cells #[vl, vr] 95)) := (Below.refl _ _).alloc (Nat.le_refl _) _
    have HB2 := Lib.hid (HB1.out.below hbel)
    have HO2 := Lib.hid (HO1.out.trans (Owns.of_below hbel _))
    have HQ2 := Lib.hid (HQ1.out.trans (others_below (b := b) hbel))
    have HX2 := Lib.hid (heap_alloc_new wp (.cells #[vl, vr] 95))
    have HXB := Lib.hid (show wp.heap.size ≠ b from fun e => by have := bo_lt HB1.out; omega)
    clear hbel
    refine (wj_any vl vr tl tr _ 3 2 b c _ _ HB2.out (fun l0 w2 h1 h2 h3 => HL.out l0 w2 h1 (HO2.out.trans h2) h3) (fun l0 w2 h1 h2 h3 => HR.out l0 w2 h1 (HO2.out.trans h2) h3) (by have := HLEN.out; simp [par] at this ⊢; omega)).mono ?_
    rintro e wr1 ⟨rfl, hB, hO, hQ⟩
    have HB3 := Lib.hid hB
    have HO3 := Lib.hid (HO2.out.trans hO)
    have HQ3 := Lib.hid (HQ2.out.trans hQ)
    clear hB hO hQ
    go_wp2
    refine leaves_cons (f := 49) (args := #[.pointer (some ⟨b, 0, none⟩), .int .u8 41]) (by simp) (by simp [go_sem]) ?_
    refine (wbyte_od b c _ 41 41 rfl .returning _ HB3.out (by have := HLEN.out; simp [par] at this ⊢; omega)).mono ?_
    rintro e u wz ⟨rfl, rfl, hB, hO, hQ⟩
    exact ⟨_, results_none rfl _ _ _, rfl, by simpa [par] using hB, HO3.out.trans hO, HQ3.out.trans hQ⟩

set_option maxHeartbeats 4000000 in
set_option maxRecDepth 100000 in
theorem wf_Or (vl vr : Value) (tl tr : List UInt8) (b c : Nat) (L : List UInt8) (req : Int) (p : Bool) (hp : p = decide ((3 : Int) < req)) (w : World) (hol : vl.oneCell' = true) (hor : vr.oneCell' = true) (hB : Bo b c L w)
    (hL : ∀ l0 w', Bo b c l0 w' → Owns w w' (Fb b c) (Fb b c) → l0.length + tl.length ≤ 140737488355328 → Calls Tryd.prog 27 #[.pointer (some ⟨b, 0, none⟩), vl, .int .i64 3] w' (WtPost b c (l0 ++ tl) w'))
    (hR : ∀ l0 w', Bo b c l0 w' → Owns w w' (Fb b c) (Fb b c) → l0.length + tr.length ≤ 140737488355328 → Calls Tryd.prog 27 #[.pointer (some ⟨b, 0, none⟩), vr, .int .i64 4] w' (WtPost b c (l0 ++ tr) w'))
    (hlen : L.length + (par p (tl ++ [32, 111, 114, 32] ++ tr)).length ≤ 140737488355328) :
    Calls Tryd.prog 27 #[.pointer (some ⟨b, 0, none⟩), .iface 94 (.agg #[vl, vr]), .int .i64 req] w (WtPost b c (L ++ par p (tl ++ [32, 111, 114, 32] ++ tr)) w) := by
  have HB := Lib.hid hB
  have HLEN := Lib.hid hlen
  have HL := Lib.hid hL
  have HR := Lib.hid hR
  clear hB hlen hL hR
  cases p
  · have hd : decide ((3 : Int) < req) = false := hp.symm
    clear hp
    have HB0 := HB
    have HO0 := Lib.hid (Owns.refl w (Fb b c))
    have HQ0 := Lib.hid (Lib.OthersKept.refl 5 (some b) w)
    go_enter Tryd.func27, Tryd.ntmps27
    go_wp2_with fail
    refine (fstrength_Or _ _).mono ?_
    rintro e w1 ⟨rfl, rfl⟩
    go_wp2_with fail
    have hbel : Below w.heap.size w (w.alloc (.cells #[vl, vr] 94)) := (Below.refl _ _).alloc (Nat.le_refl _) _
    have HB1 := Lib.hid (HB0.out.below hbel)
    have HO1 := Lib.hid (HO0.out.trans (Owns.of_below hbel _))
    have HQ1 := Lib.hid (HQ0.out.trans (others_below (b := b) hbel))
    have HX1 := Lib.hid (heap_alloc_new w (.cells #[vl, vr] 94))
    have HXB := Lib.hid (show w.heap.size ≠ b from fun e => by have := bo_lt HB0.out; omega)
    clear hbel
    refine (wj_any vl vr tl tr _ 3 4 b c _ _ HB1.out (fun l0 w2 h1 h2 h3 => HL.out l0 w2 h1 (HO1.out.trans h2) h3) (fun l0 w2 h1 h2 h3 => HR.out l0 w2 h1 (HO1.out.trans h2) h3) (by have := HLEN.out; simp [par] at this ⊢; omega)).mono ?_
    rintro e wr1 ⟨rfl, hB, hO, hQ⟩
    have HB2 := Lib.hid hB
    have HO2 := Lib.hid (HO1.out.trans hO)
    have HQ2 := Lib.hid (HQ1.out.trans hQ)
    clear hB hO hQ
    go_wp2
    go_end0
    exact ⟨rfl, by simpa [par] using HB2.out, HO2.out, HQ2.out⟩
  · have hd : decide ((3 : Int) < req) = true := hp.symm
    clear hp
    have HB0 := HB
    have HO0 := Lib.hid (Owns.refl w (Fb b c))
    have HQ0 := Lib.hid (Lib.OthersKept.refl 5 (some b) w)
    go_enter_defers Tryd.func27, Tryd.ntmps27
    go_wp2_with fail
    refine (fstrength_Or _ _).mono ?_
    rintro e w1 ⟨rfl, rfl⟩
    go_wp2_with fail
    refine (wbyte_o b c _ 40 40 rfl _ HB0.out (by have := HLEN.out; simp [par] at this ⊢; omega)).mono ?_
    rintro e wp ⟨rfl, hB, hO, hQ⟩
    have HB1 := Lib.hid hB
    have HO1 := Lib.hid (HO0.out.trans hO)
    have HQ1 := Lib.hid (HQ0.out.trans hQ)
    clear hB hO hQ
    go_wp2_with fail
    have hbel : Below wp.heap.size wp (wp.alloc (.cells #[vl, vr] 94)) := (Below.refl _ _).alloc (Nat.le_refl _) _
    have HB2 := Lib.hid (HB1.out.below hbel)
    have HO2 := Lib.hid (HO1.out.trans (Owns.of_below hbel _))
    have HQ2 := Lib.hid (HQ1.out.trans (others_below (b := b) hbel))
    have HX2 := Lib.hid (heap_alloc_new wp (.cells #[vl, vr] 94))
    have HXB := Lib.hid (show wp.heap.size ≠ b from fun e => by have := bo_lt HB1.out; omega)
    clear hbel
    refine (wj_any vl vr tl tr _ 3 4 b c _ _ HB2.out (fun l0 w2 h1 h2 h3 => HL.out l0 w2 h1 (HO2.out.trans h2) h3) (fun l0 w2 h1 h2 h3 => HR.out l0 w2 h1 (HO2.out.trans h2) h3) (by have := HLEN.out; simp [par] at this ⊢; omega)).mono ?_
    rintro e wr1 ⟨rfl, hB, hO, hQ⟩
    have HB3 := Lib.hid hB
    have HO3 := Lib.hid (HO2.out.trans hO)
    have HQ3 := Lib.hid (HQ2.out.trans hQ)
    clear hB hO hQ
    go_wp2
    refine leaves_cons (f := 49) (args := #[.pointer (some ⟨b, 0, none⟩), .int .u8 41]) (by simp) (by simp [go_sem]) ?_
    refine (wbyte_od b c _ 41 41 rfl .returning _ HB3.out (by have := HLEN.out; simp [par] at this ⊢; omega)).mono ?_
    rintro e u wz ⟨rfl, rfl, hB, hO, hQ⟩
    exact ⟨_, results_none rfl _ _ _, rfl, by simpa [par] using hB, HO3.out.trans hO, HQ3.out.trans hQ⟩

set_option maxHeartbeats 4000000 in
set_option maxRecDepth 100000 in
theorem wf_And (vl vr : Value) (tl tr : List UInt8) (b c : Nat) (L : List UInt8) (req : Int) (p : Bool) (hp : p = decide ((4 : Int) < req)) (w : World) (hol : vl.oneCell' = true) (hor : vr.oneCell' = true) (hB : Bo b c L w)
    (hL : ∀ l0 w', Bo b c l0 w' → Owns w w' (Fb b c) (Fb b c) → l0.length + tl.length ≤ 140737488355328 → Calls Tryd.prog 27 #[.pointer (some ⟨b, 0, none⟩), vl, .int .i64 4] w' (WtPost b c (l0 ++ tl) w'))
    (hR : ∀ l0 w', Bo b c l0 w' → Owns w w' (Fb b c) (Fb b c) → l0.length + tr.length ≤ 140737488355328 → Calls Tryd.prog 27 #[.pointer (some ⟨b, 0, none⟩), vr, .int .i64 5] w' (WtPost b c (l0 ++ tr) w'))
    (hlen : L.length + (par p (tl ++ [32, 97, 110, 100, 32] ++ tr)).length ≤ 140737488355328) :
    Calls Tryd.prog 27 #[.pointer (some ⟨b, 0, none⟩), .iface 53 (.agg #[vl, vr]), .int .i64 req] w (WtPost b c (L ++ par p (tl ++ [32, 97, 110, 100, 32] ++ tr)) w) := by
  have HB := Lib.hid hB
  have HLEN := Lib.hid hlen
  have HL := Lib.hid hL
  have HR := Lib.hid hR
  clear hB hlen hL hR
  cases p
  · have hd : decide ((4 : Int) < req) = false := hp.symm
    clear hp
    have HB0 := HB
    have HO0 := Lib.hid (Owns.refl w (Fb b c))
    have HQ0 := Lib.hid (Lib.OthersKept.refl 5 (some b) w)
    go_enter Tryd.func27, Tryd.ntmps27
    go_wp2_with fail
    refine (fstrength_And _ _).mono ?_
    rintro e w1 ⟨rfl, rfl⟩
    go_wp2_with fail
    have hbel : Below w.heap.size w (w.alloc (.cells #[vl, vr] 53)) := (Below.refl _ _).alloc (Nat.le_refl _) _
    have HB1 := Lib.hid (HB0.out.below hbel)
    have HO1 := Lib.hid (HO0.out.trans (Owns.of_below hbel _))
    have HQ1 := Lib.hid (HQ0.out.trans (others_below (b := b) hbel))
    have HX1 := Lib.hid (heap_alloc_new w (.cells #[vl, vr] 53))
    have HXB := Lib.hid (show w.heap.size ≠ b from fun e => by have := bo_lt HB0.out; omega)
    clear hbel
    refine (wj_any vl vr tl tr _ 4 5 b c _ _ HB1.out (fun l0 w2 h1 h2 h3 => HL.out l0 w2 h1 (HO1.out.trans h2) h3) (fun l0 w2 h1 h2 h3 => HR.out l0 w2 h1 (HO1.out.trans h2) h3) (by have := HLEN.out; simp [par] at this ⊢; omega)).mono ?_
    rintro e wr1 ⟨rfl, hB, hO, hQ⟩
    have HB2 := Lib.hid hB
    have HO2 := Lib.hid (HO1.out.trans hO)
    have HQ2 := Lib.hid (HQ1.out.trans hQ)
    clear hB hO hQ
    go_wp2
    go_end0
    exact ⟨rfl, by simpa [par] using HB2.out, HO2.out, HQ2.out⟩
  · have hd : decide ((4 : Int) < req) = true := hp.symm
    clear hp
    have HB0 := HB
    have HO0 := Lib.hid (Owns.refl w (Fb b c))
    have HQ0 := Lib.hid (Lib.OthersKept.refl 5 (some b) w)
    go_enter_defers Tryd.func27, Tryd.ntmps27
    go_wp2_with fail
    refine (fstrength_And _ _).mono ?_
    rintro e w1 ⟨rfl, rfl⟩
    go_wp2_with fail
    refine (wbyte_o b c _ 40 40 rfl _ HB0.out (by have := HLEN.out; simp [par] at this ⊢; omega)).mono ?_
    rintro e wp ⟨rfl, hB, hO, hQ⟩
    have HB1 := Lib.hid hB
    have HO1 := Lib.hid (HO0.out.trans hO)
    have HQ1 := Lib.hid (HQ0.out.trans hQ)
    clear hB hO hQ
    go_wp2_with fail
    have hbel : Below wp.heap.size wp (wp.alloc (.cells #[vl, vr] 53)) := (Below.refl _ _).alloc (Nat.le_refl _) _
    have HB2 := Lib.hid (HB1.out.below hbel)
    have HO2 := Lib.hid (HO1.out.trans (Owns.of_below hbel _))
    have HQ2 := Lib.hid (HQ1.out.trans (others_below (b := b) hbel))
    have HX2 := Lib.hid (heap_alloc_new wp (.cells #[vl, vr] 53))
    have HXB := Lib.hid (show wp.heap.size ≠ b from fun e => by have := bo_lt HB1.out; omega)
    clear hbel
    refine (wj_any vl vr tl tr _ 4 5 b c _ _ HB2.out (fun l0 w2 h1 h2 h3 => HL.out l0 w2 h1 (HO2.out.trans h2) h3) (fun l0 w2 h1 h2 h3 => HR.out l0 w2 h1 (HO2.out.trans h2) h3) (by have := HLEN.out; simp [par] at this ⊢; omega)).mono ?_
    rintro e wr1 ⟨rfl, hB, hO, hQ⟩
    have HB3 := Lib.hid hB
    have HO3 := Lib.hid (HO2.out.trans hO)
    have HQ3 := Lib.hid (HQ2.out.trans hQ)
    clear hB hO hQ
    go_wp2
    refine leaves_cons (f := 49) (args := #[.pointer (some ⟨b, 0, none⟩), .int .u8 41]) (by simp) (by simp [go_sem]) ?_
    refine (wbyte_od b c _ 41 41 rfl .returning _ HB3.out (by have := HLEN.out; simp [par] at this ⊢; omega)).mono ?_
    rintro e u wz ⟨rfl, rfl, hB, hO, hQ⟩
    exact ⟨_, results_none rfl _ _ _, rfl, by simpa [par] using hB, HO3.out.trans hO, HQ3.out.trans hQ⟩

set_option maxHeartbeats 4000000 in
set_option maxRecDepth 100000 in
theorem wf_Not (vl : Value) (tl : List UInt8) (b c : Nat) (L : List UInt8) (req : Int) (p : Bool) (hp : p = decide ((5 : Int) < req)) (w : World) (hol : vl.oneCell' = true) (hB : Bo b c L w)
    (hL : ∀ l0 w', Bo b c l0 w' → Owns w w' (Fb b c) (Fb b c) → l0.length + tl.length ≤ 140737488355328 → Calls Tryd.prog 27 #[.pointer (some ⟨b, 0, none⟩), vl, .int .i64 5] w' (WtPost b c (l0 ++ tl) w'))
    (hlen : L.length + (par p ([110, 111, 116, 32] ++ tl)).length ≤ 140737488355328) :
    Calls Tryd.prog 27 #[.pointer (some ⟨b, 0, none⟩), .iface 68 (.agg #[vl]), .int .i64 req] w (WtPost b c (L ++ par p ([110, 111, 116, 32] ++ tl)) w) := by
  have HB := Lib.hid hB
  have HLEN := Lib.hid hlen
  have HL := Lib.hid hL
  clear hB hlen hL
  cases p
  · have hd : decide ((5 : Int) < req) = false := hp.symm
    clear hp
    have HB0 := HB
    have HO0 := Lib.hid (Owns.refl w (Fb b c))
    have HQ0 := Lib.hid (Lib.OthersKept.refl 5 (some b) w)
    go_enter Tryd.func27, Tryd.ntmps27
    go_wp2_with fail
    refine (fstrength_Not _ _).mono ?_
    rintro e w1 ⟨rfl, rfl⟩
    go_wp2_with fail
    have hbel : Below w.heap.size w (w.alloc (.cells #[vl] 68)) := (Below.refl _ _).alloc (Nat.le_refl _) _
    have HB1 := Lib.hid (HB0.out.below hbel)
    have HO1 := Lib.hid (HO0.out.trans (Owns.of_below hbel _))
    have HQ1 := Lib.hid (HQ0.out.trans (others_below (b := b) hbel))
    have HX1 := Lib.hid (heap_alloc_new w (.cells #[vl] 68))
    have HXB := Lib.hid (show w.heap.size ≠ b from fun e => by have := bo_lt HB0.out; omega)
    clear hbel
    refine (wstr_o b c _ _ [110, 111, 116, 32] rfl _ HB1.out (by have := HLEN.out; simp [par] at this ⊢; omega)).mono ?_
    rintro e wr1 ⟨rfl, hB, hO, hQ⟩
    have HB2 := Lib.hid hB
    have HO2 := Lib.hid (HO1.out.trans hO)
    have HQ2 := Lib.hid (HQ1.out.trans hQ)
    have HX2 := Lib.hid (kept_box hQ HX1.out (by decide) HXB.out)
    have c20 : wr1.cell? ⟨w.heap.size, 0, none⟩ = some (vl) := blk_cell HX2.out 0 _ rfl
    clear hB hO hQ
    go_wp2_with fail
    refine (HL.out _ _ HB2.out HO2.out (by have := HLEN.out; simp [par] at this ⊢; omega)).mono ?_
    rintro e wr2 ⟨rfl, hB, hO, hQ⟩
    have HB3 := Lib.hid hB
    have HO3 := Lib.hid (HO2.out.trans hO)
    have HQ3 := Lib.hid (HQ2.out.trans hQ)
    clear hB hO hQ
    go_wp2
    go_end0
    exact ⟨rfl, by simpa [par] using HB3.out, HO3.out, HQ3.out⟩
  · have hd : decide ((5 : Int) < req) = true := hp.symm
    clear hp
    have HB0 := HB
    have HO0 := Lib.hid (Owns.refl w (Fb b c))
    have HQ0 := Lib.hid (Lib.OthersKept.refl 5 (some b) w)
    go_enter_defers Tryd.func27, Tryd.ntmps27
    go_wp2_with fail
    refine (fstrength_Not _ _).mono ?_
    rintro e w1 ⟨rfl, rfl⟩
    go_wp2_with fail
    refine (wbyte_o b c _ 40 40 rfl _ HB0.out (by have := HLEN.out; simp [par] at this ⊢; omega)).mono ?_
    rintro e wp ⟨rfl, hB, hO, hQ⟩
    have HB1 := Lib.hid hB
    have HO1 := Lib.hid (HO0.out.trans hO)
    have HQ1 := Lib.hid (HQ0.out.trans hQ)
    clear hB hO hQ
    go_wp2_with fail
    have hbel : Below wp.heap.size wp (wp.alloc (.cells #[vl] 68)) := (Below.refl _ _).alloc (Nat.le_refl _) _
    have HB2 := Lib.hid (HB1.out.below hbel)
    have HO2 := Lib.hid (HO1.out.trans (Owns.of_below hbel _))
    have HQ2 := Lib.hid (HQ1.out.trans (others_below (b := b) hbel))
    have HX2 := Lib.hid (heap_alloc_new wp (.cells #[vl] 68))
    have HXB := Lib.hid (show wp.heap.size ≠ b from fun e => by have := bo_lt HB1.out; omega)
    clear hbel
    refine (wstr_o b c _ _ [110, 111, 116, 32] rfl _ HB2.out (by have := HLEN.out; simp [par] at this ⊢; omega)).mono ?_
    rintro e wr1 ⟨rfl, hB, hO, hQ⟩
    have HB3 := Lib.hid hB
    have HO3 := Lib.hid (HO2.out.trans hO)
    have HQ3 := Lib.hid (HQ2.out.trans hQ)
    have HX3 := Lib.hid (kept_box hQ HX2.out (by decide) HXB.out)
    have c30 : wr1.cell? ⟨wp.heap.size, 0, none⟩ = some (vl) := blk_cell HX3.out 0 _ rfl
    clear hB hO hQ
    go_wp2_with fail
    refine (HL.out _ _ HB3.out HO3.out (by have := HLEN.out; simp [par] at this ⊢; omega)).mono ?_
    rintro e wr2 ⟨rfl, hB, hO, hQ⟩
    have HB4 := Lib.hid hB
    have HO4 := Lib.hid (HO3.out.trans hO)
    have HQ4 := Lib.hid (HQ3.out.trans hQ)
    clear hB hO hQ
    go_wp2
    refine leaves_cons (f := 49) (args := #[.pointer (some ⟨b, 0, none⟩), .int .u8 41]) (by simp) (by simp [go_sem]) ?_
    refine (wbyte_od b c _ 41 41 rfl .returning _ HB4.out (by have := HLEN.out; simp [par] at this ⊢; omega)).mono ?_
    rintro e u wz ⟨rfl, rfl, hB, hO, hQ⟩
    exact ⟨_, results_none rfl _ _ _, rfl, by simpa [par] using hB, HO4.out.trans hO, HQ4.out.trans hQ⟩

set_option maxHeartbeats 4000000 in
set_option maxRecDepth 100000 in
theorem wf_Truth (x : Bool) (D : ByteArray) (b c : Nat) (L : List UInt8) (req : Int) (p : Bool) (hp : p = decide ((6 : Int) < req)) (w : World) (hB : Bo b c L w)
    (hD : D = bsL (if x then [116, 114, 117, 101] else [102, 97, 108, 115, 101]))
    (hlen : L.length + (par p (D.data.toList)).length ≤ 140737488355328) :
    Calls Tryd.prog 27 #[.pointer (some ⟨b, 0, none⟩), .iface 71 (.agg #[.bool x]), .int .i64 req] w (WtPost b c (L ++ par p (D.data.toList)) w) := by
  have HB := Lib.hid hB
  have HLEN := Lib.hid hlen
  have HD := Lib.hid hD
  clear hB hlen hD
  cases p
  · have hd : decide ((6 : Int) < req) = false := hp.symm
    clear hp
    have HB0 := HB
    have HO0 := Lib.hid (Owns.refl w (Fb b c))
    have HQ0 := Lib.hid (Lib.OthersKept.refl 5 (some b) w)
    go_enter Tryd.func27, Tryd.ntmps27
    go_wp2_with fail
    refine (fstrength_Truth _ _).mono ?_
    rintro e w1 ⟨rfl, rfl⟩
    go_wp2_with fail
    have hbel : Below w.heap.size w (w.alloc (.cells #[.bool x] 71)) := (Below.refl _ _).alloc (Nat.le_refl _) _
    have HB1 := Lib.hid (HB0.out.below hbel)
    have HO1 := Lib.hid (HO0.out.trans (Owns.of_below hbel _))
    have HQ1 := Lib.hid (HQ0.out.trans (others_below (b := b) hbel))
    have HX1 := Lib.hid (heap_alloc_new w (.cells #[.bool x] 71))
    have HXB := Lib.hid (show w.heap.size ≠ b from fun e => by have := bo_lt HB0.out; omega)
    clear hbel
    refine (formatBool_any x D HD.out _).mono ?_
    rintro e wq1 ⟨rfl, rfl⟩
    go_wp2_with fail
    refine (wstr_o b c _ _ (D.data.toList) (by first | rfl | simp) _ HB1.out (by have := HLEN.out; simp [par] at this ⊢; omega)).mono ?_
    rintro e wr2 ⟨rfl, hB, hO, hQ⟩
    have HB2 := Lib.hid hB
    have HO2 := Lib.hid (HO1.out.trans hO)
    have HQ2 := Lib.hid (HQ1.out.trans hQ)
    clear hB hO hQ
    go_wp2
    go_end0
    exact ⟨rfl, by simpa [par] using HB2.out, HO2.out, HQ2.out⟩
  · have hd : decide ((6 : Int) < req) = true := hp.symm
    clear hp
    have HB0 := HB
    have HO0 := Lib.hid (Owns.refl w (Fb b c))
    have HQ0 := Lib.hid (Lib.OthersKept.refl 5 (some b) w)
    go_enter_defers Tryd.func27, Tryd.ntmps27
    go_wp2_with fail
    refine (fstrength_Truth _ _).mono ?_
    rintro e w1 ⟨rfl, rfl⟩
    go_wp2_with fail
    refine (wbyte_o b c _ 40 40 rfl _ HB0.out (by have := HLEN.out; simp [par] at this ⊢; omega)).mono ?_
    rintro e wp ⟨rfl, hB, hO, hQ⟩
    have HB1 := Lib.hid hB
    have HO1 := Lib.hid (HO0.out.trans hO)
    have HQ1 := Lib.hid (HQ0.out.trans hQ)
    clear hB hO hQ
    go_wp2_with fail
    have hbel : Below wp.heap.size wp (wp.alloc (.cells #[.bool x] 71)) := (Below.refl _ _).alloc (Nat.le_refl _) _
    have HB2 := Lib.hid (HB1.out.below hbel)
    have HO2 := Lib.hid (HO1.out.trans (Owns.of_below hbel _))
    have HQ2 := Lib.hid (HQ1.out.trans (others_below (b := b) hbel))
    have HX2 := Lib.hid (heap_alloc_new wp (.cells #[.bool x] 71))
    have HXB := Lib.hid (show wp.heap.size ≠ b from fun e => by have := bo_lt HB1.out; omega)
    clear hbel
    refine (formatBool_any x D HD.out _).mono ?_
    rintro e wq1 ⟨rfl, rfl⟩
    go_wp2_with fail
    refine (wstr_o b c _ _ (D.data.toList) (by first | rfl | simp) _ HB2.out (by have := HLEN.out; simp [par] at this ⊢; omega)).mono ?_
    rintro e wr2 ⟨rfl, hB, hO, hQ⟩
    have HB3 := Lib.hid hB
    have HO3 := Lib.hid (HO2.out.trans hO)
    have HQ3 := Lib.hid (HQ2.out.trans hQ)
    clear hB hO hQ
    go_wp2
    refine leaves_cons (f := 49) (args := #[.pointer (some ⟨b, 0, none⟩), .int .u8 41]) (by simp) (by simp [go_sem]) ?_
    refine (wbyte_od b c _ 41 41 rfl .returning _ HB3.out (by have := HLEN.out; simp [par] at this ⊢; omega)).mono ?_
    rintro e u wz ⟨rfl, rfl, hB, hO, hQ⟩
    exact ⟨_, results_none rfl _ _ _, rfl, by simpa [par] using hB, HO3.out.trans hO, HQ3.out.trans hQ⟩

set_option maxHeartbeats 4000000 in
set_option maxRecDepth 100000 in
theorem wf_Atom (vl vr : Value) (rel : Int) (tl tr : List UInt8) (D : ByteArray) (b c : Nat) (L : List UInt8) (req : Int) (p : Bool) (hp : p = decide ((6 : Int) < req)) (w : World) (hol : vl.oneCell' = true) (hor : vr.oneCell' = true) (hB : Bo b c L w)
    (hL : ∀ l0 w', Bo b c l0 w' → Owns w w' (Fb b c) (Fb b c) → l0.length + tl.length ≤ 140737488355328 → Calls Tryd.prog 35 #[.pointer (some ⟨b, 0, none⟩), vl, .int .i64 1] w' (WtPost b c (l0 ++ tl) w'))
    (hR : ∀ l0 w', Bo b c l0 w' → Owns w w' (Fb b c) (Fb b c) → l0.length + tr.length ≤ 140737488355328 → Calls Tryd.prog 35 #[.pointer (some ⟨b, 0, none⟩), vr, .int .i64 1] w' (WtPost b c (l0 ++ tr) w'))
    (hD : D = bsL (relS rel))
    (hlen : L.length + (par p (tl ++ (32 :: (D.data.toList ++ [32])) ++ tr)).length ≤ 140737488355328) :
    Calls Tryd.prog 27 #[.pointer (some ⟨b, 0, none⟩), .iface 51 (.agg #[vl, .int .i64 rel, vr]), .int .i64 req] w (WtPost b c (L ++ par p (tl ++ (32 :: (D.data.toList ++ [32])) ++ tr)) w) := by
  have HB := Lib.hid hB
  have HLEN := Lib.hid hlen
  have HL := Lib.hid hL
  have HR := Lib.hid hR
  have HD := Lib.hid hD
  clear hB hlen hL hR hD
  cases p
  · have hd : decide ((6 : Int) < req) = false := hp.symm
    clear hp
    have HB0 := HB
    have HO0 := Lib.hid (Owns.refl w (Fb b c))
    have HQ0 := Lib.hid (Lib.OthersKept.refl 5 (some b) w)
    go_enter Tryd.func27, Tryd.ntmps27
    go_wp2_with fail
    refine (fstrength_Atom _ _).mono ?_
    rintro e w1 ⟨rfl, rfl⟩
    go_wp2_with fail
    have hbel : Below w.heap.size w (w.alloc (.cells #[vl, .int .i64 rel, vr] 51)) := (Below.refl _ _).alloc (Nat.le_refl _) _
    have HB1 := Lib.hid (HB0.out.below hbel)
    have HO1 := Lib.hid (HO0.out.trans (Owns.of_below hbel _))
    have HQ1 := Lib.hid (HQ0.out.trans (others_below (b := b) hbel))
    have HX1 := Lib.hid (heap_alloc_new w (.cells #[vl, .int .i64 rel, vr] 51))
    have HXB := Lib.hid (show w.heap.size ≠ b from fun e => by have := bo_lt HB0.out; omega)
    clear hbel
    refine (HL.out _ _ HB1.out HO1.out (by have := HLEN.out; simp [par] at this ⊢; omega)).mono ?_
    rintro e wr1 ⟨rfl, hB, hO, hQ⟩
    have HB2 := Lib.hid hB
    have HO2 := Lib.hid (HO1.out.trans hO)
    have HQ2 := Lib.hid (HQ1.out.trans hQ)
    have HX2 := Lib.hid (kept_box hQ HX1.out (by decide) HXB.out)
    have c20 : wr1.cell? ⟨w.heap.size, 0, none⟩ = some (vl) := blk_cell HX2.out 0 _ rfl
    have c21 : wr1.cell? ⟨w.heap.size, 1, none⟩ = some (.int .i64 rel) := blk_cell HX2.out 1 _ rfl
    have c22 : wr1.cell? ⟨w.heap.size, 2, none⟩ = some (vr) := blk_cell HX2.out 2 _ rfl
    clear hB hO hQ
    go_wp2_with fail
    refine (prel_any rel D HD.out _).mono ?_
    rintro e wq2 ⟨rfl, rfl⟩
    have hDs : D.size ≤ 140737488355328 := by have := HLEN.out; simp [par] at this; omega
    go_wp2_with fail
    refine (wstr_o b c _ _ (32 :: (D.data.toList ++ [32])) (by first | rfl | simp) _ HB2.out (by have := HLEN.out; simp [par] at this ⊢; omega)).mono ?_
    rintro e wr3 ⟨rfl, hB, hO, hQ⟩
    have HB3 := Lib.hid hB
    have HO3 := Lib.hid (HO2.out.trans hO)
    have HQ3 := Lib.hid (HQ2.out.trans hQ)
    have HX3 := Lib.hid (kept_box hQ HX2.out (by decide) HXB.out)
    have c30 : wr3.cell? ⟨w.heap.size, 0, none⟩ = some (vl) := blk_cell HX3.out 0 _ rfl
    have c31 : wr3.cell? ⟨w.heap.size, 1, none⟩ = some (.int .i64 rel) := blk_cell HX3.out 1 _ rfl
    have c32 : wr3.cell? ⟨w.heap.size, 2, none⟩ = some (vr) := blk_cell HX3.out 2 _ rfl
    clear hB hO hQ
    go_wp2_with fail
    refine (HR.out _ _ HB3.out HO3.out (by have := HLEN.out; simp [par] at this ⊢; omega)).mono ?_
    rintro e wr4 ⟨rfl, hB, hO, hQ⟩
    have HB4 := Lib.hid hB
    have HO4 := Lib.hid (HO3.out.trans hO)
    have HQ4 := Lib.hid (HQ3.out.trans hQ)
    clear hB hO hQ
    go_wp2
    go_end0
    exact ⟨rfl, by simpa [par] using HB4.out, HO4.out, HQ4.out⟩
  · have hd : decide ((6 : Int) < req) = true := hp.symm
    clear hp
    have HB0 := HB
    have HO0 := Lib.hid (Owns.refl w (Fb b c))
    have HQ0 := Lib.hid (Lib.OthersKept.refl 5 (some b) w)
    go_enter_defers Tryd.func27, Tryd.ntmps27
    go_wp2_with fail
    refine (fstrength_Atom _ _).mono ?_
    rintro e w1 ⟨rfl, rfl⟩
    go_wp2_with fail
    refine (wbyte_o b c _ 40 40 rfl _ HB0.out (by have := HLEN.out; simp [par] at this ⊢; omega)).mono ?_
    rintro e wp ⟨rfl, hB, hO, hQ⟩
    have HB1 := Lib.hid hB
    have HO1 := Lib.hid (HO0.out.trans hO)
    have HQ1 := Lib.hid (HQ0.out.trans hQ)
    clear hB hO hQ
    go_wp2_with fail
    have hbel : Below wp.heap.size wp (wp.alloc (.cells #[vl, .int .i64 rel, vr] 51)) := (Below.refl _ _).alloc (Nat.le_refl _) _
    have HB2 := Lib.hid (HB1.out.below hbel)
    have HO2 := Lib.hid (HO1.out.trans (Owns.of_below hbel _))
    have HQ2 := Lib.hid (HQ1.out.trans (others_below (b := b) hbel))
    have HX2 := Lib.hid (heap_alloc_new wp (.cells #[vl, .int .i64 rel, vr] 51))
    have HXB := Lib.hid (show wp.heap.size ≠ b from fun e => by have := bo_lt HB1.out; omega)
    clear hbel
    refine (HL.out _ _ HB2.out HO2.out (by have := HLEN.out; simp [par] at this ⊢; omega)).mono ?_
    rintro e wr1 ⟨rfl, hB, hO, hQ⟩
    have HB3 := Lib.hid hB
    have HO3 := Lib.hid (HO2.out.trans hO)
    have HQ3 := Lib.hid (HQ2.out.trans hQ)
    have HX3 := Lib.hid (kept_box hQ HX2.out (by decide) HXB.out)
    have c30 : wr1.cell? ⟨wp.heap.size, 0, none⟩ = some (vl) := blk_cell HX3.out 0 _ rfl
    have c31 : wr1.cell? ⟨wp.heap.size, 1, none⟩ = some (.int .i64 rel) := blk_cell HX3.out 1 _ rfl
    have c32 : wr1.cell? ⟨wp.heap.size, 2, none⟩ = some (vr) := blk_cell HX3.out 2 _ rfl
    clear hB hO hQ
    go_wp2_with fail
    refine (prel_any rel D HD.out _).mono ?_
    rintro e wq2 ⟨rfl, rfl⟩
    have hDs : D.size ≤ 140737488355328 := by have := HLEN.out; simp [par] at this; omega
    go_wp2_with fail
    refine (wstr_o b c _ _ (32 :: (D.data.toList ++ [32])) (by first | rfl | simp) _ HB3.out (by have := HLEN.out; simp [par] at this ⊢; omega)).mono ?_
    rintro e wr3 ⟨rfl, hB, hO, hQ⟩
    have HB4 := Lib.hid hB
    have HO4 := Lib.hid (HO3.out.trans hO)
    have HQ4 := Lib.hid (HQ3.out.trans hQ)
    have HX4 := Lib.hid (kept_box hQ HX3.out (by decide) HXB.out)
    have c40 : wr3.cell? ⟨wp.heap.size, 0, none⟩ = some (vl) := blk_cell HX4.out 0 _ rfl
    have c41 : wr3.cell? ⟨wp.heap.size, 1, none⟩ = some (.int .i64 rel) := blk_cell HX4.out 1 _ rfl
    have c42 : wr3.cell? ⟨wp.heap.size, 2, none⟩ = some (vr) := blk_cell HX4.out 2 _ rfl
    clear hB hO hQ
    go_wp2_with fail
    refine (HR.out _ _ HB4.out HO4.out (by have := HLEN.out; simp [par] at this ⊢; omega)).mono ?_
    rintro e wr4 ⟨rfl, hB, hO, hQ⟩
    have HB5 := Lib.hid hB
    have HO5 := Lib.hid (HO4.out.trans hO)
    have HQ5 := Lib.hid (HQ4.out.trans hQ)
    clear hB hO hQ
    go_wp2
    refine leaves_cons (f := 49) (args := #[.pointer (some ⟨b, 0, none⟩), .int .u8 41]) (by simp) (by simp [go_sem]) ?_
    refine (wbyte_od b c _ 41 41 rfl .returning _ HB5.out (by have := HLEN.out; simp [par] at this ⊢; omega)).mono ?_
    rintro e u wz ⟨rfl, rfl, hB, hO, hQ⟩
    exact ⟨_, results_none rfl _ _ _, rfl, by simpa [par] using hB, HO5.out.trans hO, HQ5.out.trans hQ⟩

set_option maxHeartbeats 4000000 in
set_option maxRecDepth 100000 in
theorem wf_Quant_true (vl : Value) (s : ByteArray) (tl : List UInt8) (b c : Nat) (L : List UInt8) (req : Int) (p : Bool) (hp : p = decide ((0 : Int) < req)) (w : World) (hol : vl.oneCell' = true) (hs : s.size ≤ 140737488355328) (hB : Bo b c L w)
    (hL : ∀ l0 w', Bo b c l0 w' → Owns w w' (Fb b c) (Fb b c) → l0.length + tl.length ≤ 140737488355328 → Calls Tryd.prog 27 #[.pointer (some ⟨b, 0, none⟩), vl, .int .i64 0] w' (WtPost b c (l0 ++ tl) w'))
    (hlen : L.length + (par p ([102, 111, 114, 97, 108, 108, 32] ++ s.data.toList ++ [46, 32] ++ tl)).length ≤ 140737488355328) :
    Calls Tryd.prog 27 #[.pointer (some ⟨b, 0, none⟩), .iface 98 (.agg #[.bool true, .string s, vl]), .int .i64 req] w (WtPost b c (L ++ par p ([102, 111, 114, 97, 108, 108, 32] ++ s.data.toList ++ [46, 32] ++ tl)) w) := by
  have HB := Lib.hid hB
  have HLEN := Lib.hid hlen
  have HL := Lib.hid hL
  clear hB hlen hL
  cases p
  · have hd : decide ((0 : Int) < req) = false := hp.symm
    clear hp
    have HB0 := HB
    have HO0 := Lib.hid (Owns.refl w (Fb b c))
    have HQ0 := Lib.hid (Lib.OthersKept.refl 5 (some b) w)
    go_enter Tryd.func27, Tryd.ntmps27
    go_wp2_with fail
    refine (fstrength_Quant _ _).mono ?_
    rintro e w1 ⟨rfl, rfl⟩
    go_wp2_with fail
    have hbel : Below w.heap.size w (w.alloc (.cells #[.bool true, .string s, vl] 98)) := (Below.refl _ _).alloc (Nat.le_refl _) _
    have HB1 := Lib.hid (HB0.out.below hbel)
    have HO1 := Lib.hid (HO0.out.trans (Owns.of_below hbel _))
    have HQ1 := Lib.hid (HQ0.out.trans (others_below (b := b) hbel))
    have HX1 := Lib.hid (heap_alloc_new w (.cells #[.bool true, .string s, vl] 98))
    have HXB := Lib.hid (show w.heap.size ≠ b from fun e => by have := bo_lt HB0.out; omega)
    clear hbel
    refine (wstr_o b c _ _ ([102, 111, 114, 97, 108, 108, 32] ++ s.data.toList ++ [46, 32]) (by first | rfl | simp) _ HB1.out (by have := HLEN.out; simp [par] at this ⊢; omega)).mono ?_
    rintro e wr1 ⟨rfl, hB, hO, hQ⟩
    have HB2 := Lib.hid hB
    have HO2 := Lib.hid (HO1.out.trans hO)
    have HQ2 := Lib.hid (HQ1.out.trans hQ)
    have HX2 := Lib.hid (kept_box hQ HX1.out (by decide) HXB.out)
    have c20 : wr1.cell? ⟨w.heap.size, 0, none⟩ = some (.bool true) := blk_cell HX2.out 0 _ rfl
    have c21 : wr1.cell? ⟨w.heap.size, 1, none⟩ = some (.string s) := blk_cell HX2.out 1 _ rfl
    have c22 : wr1.cell? ⟨w.heap.size, 2, none⟩ = some (vl) := blk_cell HX2.out 2 _ rfl
    clear hB hO hQ
    go_wp2_with fail
    refine (HL.out _ _ HB2.out HO2.out (by have := HLEN.out; simp [par] at this ⊢; omega)).mono ?_
    rintro e wr2 ⟨rfl, hB, hO, hQ⟩
    have HB3 := Lib.hid hB
    have HO3 := Lib.hid (HO2.out.trans hO)
    have HQ3 := Lib.hid (HQ2.out.trans hQ)
    clear hB hO hQ
    go_wp2
    go_end0
    exact ⟨rfl, by simpa [par] using HB3.out, HO3.out, HQ3.out⟩
  · have hd : decide ((0 : Int) < req) = true := hp.symm
    clear hp
    have HB0 := HB
    have HO0 := Lib.hid (Owns.refl w (Fb b c))
    have HQ0 := Lib.hid (Lib.OthersKept.refl 5 (some b) w)
    go_enter_defers Tryd.func27, Tryd.ntmps27
    go_wp2_with fail
    refine (fstrength_Quant _ _).mono ?_
    rintro e w1 ⟨rfl, rfl⟩
    go_wp2_with fail
    refine (wbyte_o b c _ 40 40 rfl _ HB0.out (by have := HLEN.out; simp [par] at this ⊢; omega)).mono ?_
    rintro e wp ⟨rfl, hB, hO, hQ⟩
    have HB1 := Lib.hid hB
    have HO1 := Lib.hid (HO0.out.trans hO)
    have HQ1 := Lib.hid (HQ0.out.trans hQ)
    clear hB hO hQ
    go_wp2_with fail
    have hbel : Below wp.heap.size wp (wp.alloc (.cells #[.bool true, .string s, vl] 98)) := (Below.refl _ _).alloc (Nat.le_refl _) _
    have HB2 := Lib.hid (HB1.out.below hbel)
    have HO2 := Lib.hid (HO1.out.trans (Owns.of_below hbel _))
    have HQ2 := Lib.hid (HQ1.out.trans (others_below (b := b) hbel))
    have HX2 := Lib.hid (heap_alloc_new wp (.cells #[.bool true, .string s, vl] 98))
    have HXB := Lib.hid (show wp.heap.size ≠ b from fun e => by have := bo_lt HB1.out; omega)
    clear hbel
    refine (wstr_o b c _ _ ([102, 111, 114, 97, 108, 108, 32] ++ s.data.toList ++ [46, 32]) (by first | rfl | simp) _ HB2.out (by have := HLEN.out; simp [par] at this ⊢; omega)).mono ?_
    rintro e wr1 ⟨rfl, hB, hO, hQ⟩
    have HB3 := Lib.hid hB
    have HO3 := Lib.hid (HO2.out.trans hO)
    have HQ3 := Lib.hid (HQ2.out.trans hQ)
    have HX3 := Lib.hid (kept_box hQ HX2.out (by decide) HXB.out)
    have c30 : wr1.cell? ⟨wp.heap.size, 0, none⟩ = some (.bool true) := blk_cell HX3.out 0 _ rfl
    have c31 : wr1.cell? ⟨wp.heap.size, 1, none⟩ = some (.string s) := blk_cell HX3.out 1 _ rfl
    have c32 : wr1.cell? ⟨wp.heap.size, 2, none⟩ = some (vl) := blk_cell HX3.out 2 _ rfl
    clear hB hO hQ
    go_wp2_with fail
    refine (HL.out _ _ HB3.out HO3.out (by have := HLEN.out; simp [par] at this ⊢; omega)).mono ?_
    rintro e wr2 ⟨rfl, hB, hO, hQ⟩
    have HB4 := Lib.hid hB
    have HO4 := Lib.hid (HO3.out.trans hO)
    have HQ4 := Lib.hid (HQ3.out.trans hQ)
    clear hB hO hQ
    go_wp2
    refine leaves_cons (f := 49) (args := #[.pointer (some ⟨b, 0, none⟩), .int .u8 41]) (by simp) (by simp [go_sem]) ?_
    refine (wbyte_od b c _ 41 41 rfl .returning _ HB4.out (by have := HLEN.out; simp [par] at this ⊢; omega)).mono ?_
    rintro e u wz ⟨rfl, rfl, hB, hO, hQ⟩
    exact ⟨_, results_none rfl _ _ _, rfl, by simpa [par] using hB, HO4.out.trans hO, HQ4.out.trans hQ⟩

set_option maxHeartbeats 4000000 in
set_option maxRecDepth 100000 in
theorem wf_Quant_false (vl : Value) (s : ByteArray) (tl : List UInt8) (b c : Nat) (L : List UInt8) (req : Int) (p : Bool) (hp : p = decide ((0 : Int) < req)) (w : World) (hol : vl.oneCell' = true) (hs : s.size ≤ 140737488355328) (hB : Bo b c L w)
    (hL : ∀ l0 w', Bo b c l0 w' → Owns w w' (Fb b c) (Fb b c) → l0.length + tl.length ≤ 140737488355328 → Calls Tryd.prog 27 #[.pointer (some ⟨b, 0, none⟩), vl, .int .i64 0] w' (WtPost b c (l0 ++ tl) w'))
    (hlen : L.length + (par p ([101, 120, 105, 115, 116, 115, 32] ++ s.data.toList ++ [46, 32] ++ tl)).length ≤ 140737488355328) :
    Calls Tryd.prog 27 #[.pointer (some ⟨b, 0, none⟩), .iface 98 (.agg #[.bool false, .string s, vl]), .int .i64 req] w (WtPost b c (L ++ par p ([101, 120, 105, 115, 116, 115, 32] ++ s.data.toList ++ [46, 32] ++ tl)) w) := by
  have HB := Lib.hid hB
  have HLEN := Lib.hid hlen
  have HL := Lib.hid hL
  clear hB hlen hL
  cases p
  · have hd : decide ((0 : Int) < req) = false := hp.symm
    clear hp
    have HB0 := HB
    have HO0 := Lib.hid (Owns.refl w (Fb b c))
    have HQ0 := Lib.hid (Lib.OthersKept.refl 5 (some b) w)
    go_enter Tryd.func27, Tryd.ntmps27
    go_wp2_with fail
    refine (fstrength_Quant _ _).mono ?_
    rintro e w1 ⟨rfl, rfl⟩
    go_wp2_with fail
    have hbel : Below w.heap.size w (w.alloc (.cells #[.bool false, .string s, vl] 98)) := (Below.refl _ _).alloc (Nat.le_refl _) _
    have HB1 := Lib.hid (HB0.out.below hbel)
    have HO1 := Lib.hid (HO0.out.trans (Owns.of_below hbel _))
    have HQ1 := Lib.hid (HQ0.out.trans (others_below (b := b) hbel))
    have HX1 := Lib.hid (heap_alloc_new w (.cells #[.bool false, .string s, vl] 98))
    have HXB := Lib.hid (show w.heap.size ≠ b from fun e => by have := bo_lt HB0.out; omega)
    clear hbel
    refine (wstr_o b c _ _ ([101, 120, 105, 115, 116, 115, 32] ++ s.data.toList ++ [46, 32]) (by first | rfl | simp) _ HB1.out (by have := HLEN.out; simp [par] at this ⊢; omega)).mono ?_
    rintro e wr1 ⟨rfl, hB, hO, hQ⟩
    have HB2 := Lib.hid hB
    have HO2 := Lib.hid (HO1.out.trans hO)
    have HQ2 := Lib.hid (HQ1.out.trans hQ)
    have HX2 := Lib.hid (kept_box hQ HX1.out (by decide) HXB.out)
    have c20 : wr1.cell? ⟨w.heap.size, 0, none⟩ = some (.bool false) := blk_cell HX2.out 0 _ rfl
    have c21 : wr1.cell? ⟨w.heap.size, 1, none⟩ = some (.string s) := blk_cell HX2.out 1 _ rfl
    have c22 : wr1.cell? ⟨w.heap.size, 2, none⟩ = some (vl) := blk_cell HX2.out 2 _ rfl
    clear hB hO hQ
    go_wp2_with fail
    refine (HL.out _ _ HB2.out HO2.out (by have := HLEN.out; simp [par] at this ⊢; omega)).mono ?_
    rintro e wr2 ⟨rfl, hB, hO, hQ⟩
    have HB3 := Lib.hid hB
    have HO3 := Lib.hid (HO2.out.trans hO)
    have HQ3 := Lib.hid (HQ2.out.trans hQ)
    clear hB hO hQ
    go_wp2
    go_end0
    exact ⟨rfl, by simpa [par] using HB3.out, HO3.out, HQ3.out⟩
  · have hd : decide ((0 : Int) < req) = true := hp.symm
    clear hp
    have HB0 := HB
    have HO0 := Lib.hid (Owns.refl w (Fb b c))
    have HQ0 := Lib.hid (Lib.OthersKept.refl 5 (some b) w)
    go_enter_defers Tryd.func27, Tryd.ntmps27
    go_wp2_with fail
    refine (fstrength_Quant _ _).mono ?_
    rintro e w1 ⟨rfl, rfl⟩
    go_wp2_with fail
    refine (wbyte_o b c _ 40 40 rfl _ HB0.out (by have := HLEN.out; simp [par] at this ⊢; omega)).mono ?_
    rintro e wp ⟨rfl, hB, hO, hQ⟩
    have HB1 := Lib.hid hB
    have HO1 := Lib.hid (HO0.out.trans hO)
    have HQ1 := Lib.hid (HQ0.out.trans hQ)
    clear hB hO hQ
    go_wp2_with fail
    have hbel : Below wp.heap.size wp (wp.alloc (.cells #[.bool false, .string s, vl] 98)) := (Below.refl _ _).alloc (Nat.le_refl _) _
    have HB2 := Lib.hid (HB1.out.below hbel)
    have HO2 := Lib.hid (HO1.out.trans (Owns.of_below hbel _))
    have HQ2 := Lib.hid (HQ1.out.trans (others_below (b := b) hbel))
    have HX2 := Lib.hid (heap_alloc_new wp (.cells #[.bool false, .string s, vl] 98))
    have HXB := Lib.hid (show wp.heap.size ≠ b from fun e => by have := bo_lt HB1.out; omega)
    clear hbel
    refine (wstr_o b c _ _ ([101, 120, 105, 115, 116, 115, 32] ++ s.data.toList ++ [46, 32]) (by first | rfl | simp) _ HB2.out (by have := HLEN.out; simp [par] at this ⊢; omega)).mono ?_
    rintro e wr1 ⟨rfl, hB, hO, hQ⟩
    have HB3 := Lib.hid hB
    have HO3 := Lib.hid (HO2.out.trans hO)
    have HQ3 := Lib.hid (HQ2.out.trans hQ)
    have HX3 := Lib.hid (kept_box hQ HX2.out (by decide) HXB.out)
    have c30 : wr1.cell? ⟨wp.heap.size, 0, none⟩ = some (.bool false) := blk_cell HX3.out 0 _ rfl
    have c31 : wr1.cell? ⟨wp.heap.size, 1, none⟩ = some (.string s) := blk_cell HX3.out 1 _ rfl
    have c32 : wr1.cell? ⟨wp.heap.size, 2, none⟩ = some (vl) := blk_cell HX3.out 2 _ rfl
    clear hB hO hQ
    go_wp2_with fail
    refine (HL.out _ _ HB3.out HO3.out (by have := HLEN.out; simp [par] at this ⊢; omega)).mono ?_
    rintro e wr2 ⟨rfl, hB, hO, hQ⟩
    have HB4 := Lib.hid hB
    have HO4 := Lib.hid (HO3.out.trans hO)
    have HQ4 := Lib.hid (HQ3.out.trans hQ)
    clear hB hO hQ
    go_wp2
    refine leaves_cons (f := 49) (args := #[.pointer (some ⟨b, 0, none⟩), .int .u8 41]) (by simp) (by simp [go_sem]) ?_
    refine (wbyte_od b c _ 41 41 rfl .returning _ HB4.out (by have := HLEN.out; simp [par] at this ⊢; omega)).mono ?_
    rintro e u wz ⟨rfl, rfl, hB, hO, hQ⟩
    exact ⟨_, results_none rfl _ _ _, rfl, by simpa [par] using hB, HO4.out.trans hO, HQ4.out.trans hQ⟩

/-- nothing odd in it -/
def evF : Fo → Prop
  | .odd => False
  | .truth _ => True
  | .atom l _ r => evT l ∧ evT r
  | .not f => evF f
  | .and l r => evF l ∧ evF r
  | .or l r => evF l ∧ evF r
  | .implies l r => evF l ∧ evF r
  | .iff l r => evF l ∧ evF r
  | .quant _ _ f => evF f
def expF : Fo → List Int
  | .odd => []
  | .truth _ => []
  | .atom l _ r => expT l ++ expT r
  | .not f => expF f
  | .and l r => expF l ++ expF r
  | .or l r => expF l ++ expF r
  | .implies l r => expF l ++ expF r
  | .iff l r => expF l ++ expF r
  | .quant _ _ f => expF f
theorem par_len (p : Bool) (s : List UInt8) : s.length ≤ (par p s).length := by cases p <;> simp [par]; omega
theorem wf_any (w0 : World) : ∀ (t : Fo) (v : Value) (S : Nat → Prop) (b c : Nat) (L : List UInt8) (req : Int) (w : World), Below w0.heap.size w0 w → w0.heap.size ≤ b → (∀ x, S x → x < w.heap.size ∧ ¬ Fb b c x) → FoAt w S t v → SmF t → evF t → (∀ e ∈ expF t, ItW w0 e) →
    Bo b c L w → L.length + (inF t req).length ≤ 140737488355328 → Calls Tryd.prog 27 #[.pointer (some ⟨b, 0, none⟩), v, .int .i64 req] w (WtPost b c (L ++ inF t req) w) := by
  intro t
  induction t with
  | odd => intro v S b c L req w h0 hb hS hT hs he; exact he.elim
  | truth x =>
    intro v S b c L req w h0 hb hS hT hs he hI hB hlen
    obtain rfl := hT
    exact wf_Truth x (bsL (if x then [116, 114, 117, 101] else [102, 97, 108, 115, 101])) b c L req _ rfl w hB rfl hlen
  | atom l rel r =>
    intro v S b c L req w h0 hb hS hT hs he hI hB hlen
    obtain ⟨vl, vr, rfl, h1, h2⟩ := hT
    exact wf_Atom vl vr rel (inT l 1) (inT r 1) (bsL (relS rel)) b c L req _ rfl w h1.one h2.one hB
      (fun l0 w' hB' ho hl => wt_any w0 l vl S b c l0 1 w' (w0_owns h0 hb hB.1 ho) hb (S_owns ho hS) (h1.owns ho hS) hs.1 he.1 (fun e h => hI e (List.mem_append_left _ h)) hB' hl)
      (fun l0 w' hB' ho hl => wt_any w0 r vr S b c l0 1 w' (w0_owns h0 hb hB.1 ho) hb (S_owns ho hS) (h2.owns ho hS) hs.2 he.2 (fun e h => hI e (List.mem_append_right _ h)) hB' hl) rfl hlen
  | not t it =>
    intro v S b c L req w h0 hb hS hT hs he hI hB hlen
    obtain ⟨vt, rfl, h1⟩ := hT
    exact wf_Not vt (inF t 5) b c L req _ rfl w h1.one hB
      (fun l0 w' hB' ho hl => it vt S b c l0 5 w' (w0_owns h0 hb hB.1 ho) hb (S_owns ho hS) (h1.owns ho hS) hs he hI hB' hl) hlen
  | and l r il ir =>
    intro v S b c L req w h0 hb hS hT hs he hI hB hlen
    obtain ⟨vl, vr, rfl, h1, h2⟩ := hT
    exact wf_And vl vr (inF l 4) (inF r 5) b c L req _ rfl w h1.one h2.one hB
      (fun l0 w' hB' ho hl => il vl S b c l0 4 w' (w0_owns h0 hb hB.1 ho) hb (S_owns ho hS) (h1.owns ho hS) hs.1 he.1 (fun e h => hI e (List.mem_append_left _ h)) hB' hl)
      (fun l0 w' hB' ho hl => ir vr S b c l0 5 w' (w0_owns h0 hb hB.1 ho) hb (S_owns ho hS) (h2.owns ho hS) hs.2 he.2 (fun e h => hI e (List.mem_append_right _ h)) hB' hl) hlen
  | or l r il ir =>
    intro v S b c L req w h0 hb hS hT hs he hI hB hlen
    obtain ⟨vl, vr, rfl, h1, h2⟩ := hT
    exact wf_Or vl vr (inF l 3) (inF r 4) b c L req _ rfl w h1.one h2.one hB
      (fun l0 w' hB' ho hl => il vl S b c l0 3 w' (w0_owns h0 hb hB.1 ho) hb (S_owns ho hS) (h1.owns ho hS) hs.1 he.1 (fun e h => hI e (List.mem_append_left _ h)) hB' hl)
      (fun l0 w' hB' ho hl => ir vr S b c l0 4 w' (w0_owns h0 hb hB.1 ho) hb (S_owns ho hS) (h2.owns ho hS) hs.2 he.2 (fun e h => hI e (List.mem_append_right _ h)) hB' hl) hlen
  | implies l r il ir =>
    intro v S b c L req w h0 hb hS hT hs he hI hB hlen
    obtain ⟨vl, vr, rfl, h1, h2⟩ := hT
    exact wf_Implies vl vr (inF l 3) (inF r 2) b c L req _ rfl w h1.one h2.one hB
      (fun l0 w' hB' ho hl => il vl S b c l0 3 w' (w0_owns h0 hb hB.1 ho) hb (S_owns ho hS) (h1.owns ho hS) hs.1 he.1 (fun e h => hI e (List.mem_append_left _ h)) hB' hl)
      (fun l0 w' hB' ho hl => ir vr S b c l0 2 w' (w0_owns h0 hb hB.1 ho) hb (S_owns ho hS) (h2.owns ho hS) hs.2 he.2 (fun e h => hI e (List.mem_append_right _ h)) hB' hl) hlen
  | iff l r il ir =>
    intro v S b c L req w h0 hb hS hT hs he hI hB hlen
    obtain ⟨vl, vr, rfl, h1, h2⟩ := hT
    exact wf_Iff vl vr (inF l 1) (inF r 2) b c L req _ rfl w h1.one h2.one hB
      (fun l0 w' hB' ho hl => il vl S b c l0 1 w' (w0_owns h0 hb hB.1 ho) hb (S_owns ho hS) (h1.owns ho hS) hs.1 he.1 (fun e h => hI e (List.mem_append_left _ h)) hB' hl)
      (fun l0 w' hB' ho hl => ir vr S b c l0 2 w' (w0_owns h0 hb hB.1 ho) hb (S_owns ho hS) (h2.owns ho hS) hs.2 he.2 (fun e h => hI e (List.mem_append_right _ h)) hB' hl) hlen
  | quant a nm t it =>
    intro v S b c L req w h0 hb hS hT hs he hI hB hlen
    obtain ⟨vt, rfl, hn, h1⟩ := hT
    have hsz : nm.size ≤ 140737488355328 := by
      have h := hlen
      unfold inF at h
      have h2 := par_len (decide (strF (.quant a nm t) < req)) (txtF (.quant a nm t))
      unfold txtF at h2 h
      simp only [List.length_append] at h2 h
      have h3 : nm.data.toList.length = nm.size := rfl
      omega
    cases a
    · exact wf_Quant_false vt nm (inF t 0) b c L req _ rfl w h1.one hsz hB
        (fun l0 w' hB' ho hl => it vt S b c l0 0 w' (w0_owns h0 hb hB.1 ho) hb (S_owns ho hS) (h1.owns ho hS) hs he hI hB' hl) hlen
    · exact wf_Quant_true vt nm (inF t 0) b c L req _ rfl w h1.one hsz hB
        (fun l0 w' hB' ho hl => it vt S b c l0 0 w' (w0_owns h0 hb hB.1 ho) hb (S_owns ho hS) (h1.owns ho hS) hs he hI hB' hl) hlen
end Pr
end Go.Proofs.YtkjbfomokdjbnaaDoor
