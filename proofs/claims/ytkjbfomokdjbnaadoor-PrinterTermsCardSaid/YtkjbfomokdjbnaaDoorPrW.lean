/-
  cylinderlaw37.awake.
-/
import Derived.Test.YtkjbfomokdjbnaaDoorPrG
import Derived.Shelf.LaysM
import Derived.Shelf.Strconv.Itoa3
import Derived.Lib.AppendIntMem
import Derived.Test.YtkjbfomokdjbnaaDoorDcF
import Derived.Test.YtkjbfomokdjbnaaDoorPrF
namespace Go.Proofs.YtkjbfomokdjbnaaDoor
open Go.RowKit
set_option linter.unusedSimpArgs false
set_option linter.unusedVariables false
namespace Pr
open Fm Dc
attribute [local go_sem] run_store
abbrev xN : ByteArray := ⟨#[120]⟩
def awF : Fo := .not (.atom (.name xN) 1 (.name xN))
theorem awF_named : nmdT (plainF awF) = true := by kernel_rfl
theorem awF_text : txtF (prF awF) = [110, 111, 116, 32, 120, 32, 60, 32, 120] := by kernel_rfl
theorem awF_exp : expF (prF awF) = [] := by kernel_rfl
theorem xN_at (w : World) : TmAt w (fun _ => False) (.name xN) (.iface 47 (.agg #[.string xN])) := ⟨rfl, by decide⟩
theorem awF_at (w : World) : FoAt w (fun _ => False) awF (.iface 68 (.agg #[.iface 51 (.agg #[.iface 47 (.agg #[.string xN]), .int .i64 1, .iface 47 (.agg #[.string xN])])])) :=
  ⟨_, rfl, _, _, rfl, xN_at w, xN_at w⟩
mutual
def smB : Tr → Bool
  | .mk h ks => decide (h.abs.length ≤ 20) && (decide (h.name.size ≤ 40) && smBL ks)
def smBL : List Tr → Bool
  | [] => true
  | k :: ks => smB k && smBL ks
end
mutual
theorem smB_sm : ∀ t : Tr, smB t = true → Sm t
  | .mk h ks, e => by
    unfold smB at e
    simp only [Bool.and_eq_true, decide_eq_true_eq] at e
    unfold Sm
    exact ⟨e.1, e.2.1, smBL_sm ks e.2.2⟩
theorem smBL_sm : ∀ ks : List Tr, smBL ks = true → SmL ks
  | [], _ => by unfold SmL; trivial
  | k :: ks, e => by
    unfold smBL at e
    simp only [Bool.and_eq_true] at e
    unfold SmL
    exact ⟨smB_sm k e.1, smBL_sm ks e.2⟩
end
theorem awF_sm : Sm (plainF awF) := smB_sm _ (by kernel_rfl)
set_option maxHeartbeats 2000000 in
set_option maxRecDepth 100000 in
theorem awake_any (w : World) : Calls Tryd.prog 7 #[] w fun e w' => e = .returned (.bool true) ∧ Below w.heap.size w w' := by
  have HF := Lib.hid (fun w' => format_ok awF _ _ w' (fun b h => h.elim) (awF_at w') ⟨trivial, trivial⟩ awF_sm awF_named (by rw [awF_exp]; simp) (by rw [awF_text]; decide) ⟨#[110, 111, 116, 32, 120, 32, 60, 32, 120]⟩ (by rw [awF_text]; rfl))
  go_enter Tryd.func7, Tryd.ntmps7
  go_wp2_with fail
  refine (HF.out _).mono ?_
  rintro e w1 ⟨rfl, hb⟩
  have HB := Lib.hid hb
  clear hb
  go_wp2
  go_ret
  exact ⟨rfl, ((Below.refl _ w).alloc (Nat.le_refl _) _).trans (HB.out.mono (by simp))⟩
end Pr
end Go.Proofs.YtkjbfomokdjbnaaDoor

/-
  strconv.Itoa: its contract out of the shelf of the library.
-/
namespace Go.Proofs.YtkjbfomokdjbnaaDoor
open Go.Shelf
def itoa_ren : Go.Shelf.Ren := ⟨fun | 171 => 64 | 243 => 75 | 246 => 81 | 283 => 86 | 284 => 87 | 285 => 88 | 286 => 89 | 129 => 92 | 317 => 91 | 318 => 93 | 319 => 94 | 320 => 95 | 337 => 96 | 338 => 97 | n => n, fun | 3 => 3 | 9 => 9 | 2 => 2 | 4 => 4 | 171 => 150 | 0 => 0 | 53 => 132 | 37 => 73 | 5 => 5 | 173 => 153 | 212 => 158 | 51 => 128 | 20 => 20 | 213 => 159 | 46 => 133 | 232 => 162 | 233 => 163 | n => n, fun | 17 => 0 | 18 => 2 | 19 => 3 | n => n⟩
theorem itoa_lays : Go.Proofs.LaysM.n171 Tryd.prog itoa_ren := {
  mixed := by kernel_rfl
  f129 := Tryd.func92.trans (congrArg some (by kernel_rfl))
  f171 := Tryd.func64.trans (congrArg some (by kernel_rfl))
  f243 := Tryd.func75.trans (congrArg some (by kernel_rfl))
  f246 := Tryd.func81.trans (congrArg some (by kernel_rfl))
  f283 := Tryd.func86.trans (congrArg some (by kernel_rfl))
  f284 := Tryd.func87.trans (congrArg some (by kernel_rfl))
  f285 := Tryd.func88.trans (congrArg some (by kernel_rfl))
  f286 := Tryd.func89.trans (congrArg some (by kernel_rfl))
  f317 := Tryd.func91.trans (congrArg some (by kernel_rfl))
  f318 := Tryd.func93.trans (congrArg some (by kernel_rfl))
  f319 := Tryd.func94.trans (congrArg some (by kernel_rfl))
  f320 := Tryd.func95.trans (congrArg some (by kernel_rfl))
  f337 := Tryd.func96.trans (congrArg some (by kernel_rfl))
  f338 := Tryd.func97.trans (congrArg some (by kernel_rfl))
  t0 := Tryd.underlying0
  a0 := Tryd.isAgg0
  z0 := Tryd.sizeOf0
  v0 := Tryd.zeroValue0
  t2 := Tryd.underlying2
  a2 := Tryd.isAgg2
  z2 := Tryd.sizeOf2
  v2 := Tryd.zeroValue2
  t3 := Tryd.underlying3
  a3 := Tryd.isAgg3
  z3 := Tryd.sizeOf3
  v3 := Tryd.zeroValue3
  t4 := Tryd.underlying4
  a4 := Tryd.isAgg4
  z4 := Tryd.sizeOf4
  v4 := Tryd.zeroValue4
  t5 := Tryd.underlying5
  a5 := Tryd.isAgg5
  z5 := Tryd.sizeOf5
  v5 := Tryd.zeroValue5
  t9 := Tryd.underlying9
  a9 := Tryd.isAgg9
  z9 := Tryd.sizeOf9
  v9 := Tryd.zeroValue9
  t20 := Tryd.underlying20
  a20 := Tryd.isAgg20
  z20 := Tryd.sizeOf20
  v20 := Tryd.zeroValue20
  t37 := Tryd.underlying73
  a37 := Tryd.isAgg73
  z37 := Tryd.sizeOf73
  v37 := Tryd.zeroValue73
  t46 := Tryd.underlying133
  a46 := Tryd.isAgg133
  z46 := Tryd.sizeOf133
  v46 := Tryd.zeroValue133
  t51 := Tryd.underlying128
  a51 := Tryd.isAgg128
  z51 := Tryd.sizeOf128
  v51 := Tryd.zeroValue128
  t53 := Tryd.underlying132
  a53 := Tryd.isAgg132
  z53 := Tryd.sizeOf132
  v53 := Tryd.zeroValue132
  t171 := Tryd.underlying150
  a171 := Tryd.isAgg150
  z171 := Tryd.sizeOf150
  v171 := Tryd.zeroValue150
  t173 := Tryd.underlying153
  a173 := Tryd.isAgg153
  z173 := Tryd.sizeOf153
  v173 := Tryd.zeroValue153
  t212 := Tryd.underlying158
  a212 := Tryd.isAgg158
  z212 := Tryd.sizeOf158
  v212 := Tryd.zeroValue158
  t213 := Tryd.underlying159
  a213 := Tryd.isAgg159
  z213 := Tryd.sizeOf159
  t232 := Tryd.underlying162
  a232 := Tryd.isAgg162
  z232 := Tryd.sizeOf162
  v232 := Tryd.zeroValue162
  t233 := Tryd.underlying163
  a233 := Tryd.isAgg163
  z233 := Tryd.sizeOf163
  v233 := Tryd.zeroValue163
  g17 := by kernel_rfl
  g18 := by kernel_rfl
  g19 := by kernel_rfl
  i0 := by kernel_rfl
  i2 := by kernel_rfl
  i3 := by kernel_rfl
  i4 := by kernel_rfl
  i5 := by kernel_rfl
  i9 := by kernel_rfl
  i20 := by kernel_rfl
  i37 := by kernel_rfl
  i46 := by kernel_rfl
  i51 := by kernel_rfl
  i53 := by kernel_rfl
  i171 := by kernel_rfl
  i173 := by kernel_rfl
  i212 := by kernel_rfl
  i232 := by kernel_rfl
  i233 := by kernel_rfl
  m17 := by kernel_rfl
  m18 := by kernel_rfl
  m19 := by kernel_rfl }
open Go.RowKit Go.Sort Go.Lib in
theorem itoa_any (n : Int) (h0 : -9223372036854775808 ≤ n) (h1 : n ≤ 9223372036854775807) (w : World) (htab : Lib.TabIs Tryd.prog w "internal/strconv.uint64pow10" .u64 Lib.pow10Tab) :
    Calls Tryd.prog 64 #[.int .i64 n] w fun e w' => e = .returned (.string ⟨(Lib.itoa n).toArray⟩) ∧ ∃ k os, w' = grow (w.drewN k) os := Any.strconv_Itoa itoa_lays n h0 h1 w htab
namespace Pr
open Go.RowKit Go.Sort Dc
theorem dec_digits : ∀ (m n : Nat), n ≤ m → 0 < n → Lib.decDigits n = (revd n).reverse.map asc
  | 0, n, h, hp => by omega
  | m + 1, n, h, hp => by
    unfold Lib.decDigits
    rw [revd_pos hp]
    by_cases h0 : n < 10
    · rw [dif_pos h0, show n / 10 = 0 by omega, revd_zero, show n % 10 = n by omega]
      rfl
    · rw [dif_neg h0, dec_digits m (n / 10) (by omega) (by omega), List.reverse_cons, List.map_append]
      rfl
theorem fmt_digits (n : Nat) : fmtL false n = Lib.decDigits n := by
  unfold fmtL
  by_cases h : n = 0
  · rw [if_pos h, h]; unfold Lib.decDigits; rfl
  · rw [if_neg h, dec_digits n n (Nat.le_refl _) (by omega)]; rfl
theorem fmt_itoa (e : Int) (h : 0 ≤ e) : fmtS false e.toNat = ⟨(Lib.itoa e).toArray⟩ := by
  unfold fmtS Lib.itoa
  rw [fmt_digits, if_neg (by omega)]
theorem itoa_ok (w0 : World) (htab : Lib.TabIs Tryd.prog w0 "internal/strconv.uint64pow10" .u64 Lib.pow10Tab) (e : Int) (h0 : 0 ≤ e) (h1 : e ≤ 9223372036854775807) : ItW w0 e := by
  intro w hb
  rw [fmt_itoa e h0]
  refine (itoa_any e (by omega) h1 w (Lib.tabBelow_of_tabIs htab w hb)).mono ?_
  rintro r w2 ⟨rfl, k, os, rfl⟩
  exact ⟨rfl, Lib.below_grow _ w (Nat.le_refl _) k os⟩
end Pr
end Go.Proofs.YtkjbfomokdjbnaaDoor
