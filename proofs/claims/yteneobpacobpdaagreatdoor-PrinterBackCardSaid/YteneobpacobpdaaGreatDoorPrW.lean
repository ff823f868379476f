/-
  cylinderlaw37.awake.
-/
import Derived.Test.YteneobpacobpdaaGreatDoorHy
import Derived.Test.YteneobpacobpdaaGreatDoorPrG
import Derived.Shelf.LaysM
import Derived.Shelf.Strconv.Itoa3
import Derived.Lib.AppendIntMem
import Derived.Test.YteneobpacobpdaaGreatDoorDcF
import Derived.Test.YteneobpacobpdaaGreatDoorPrF
set_option linter.unusedSimpArgs false
set_option linter.unusedVariables false
set_option maxRecDepth 100000
set_option maxHeartbeats 16000000
namespace Go.Proofs.YteneobpacobpdaaGreatDoor
open Go.RowKit
namespace Pr
open Fm Dc
attribute [local go_sem] run_store
abbrev xN : ByteArray := ⟨#[120]⟩
def awF : Fo := .not (.atom (.name xN) 1 (.name xN))
theorem awF_named : nmdT (plainF awF) = true := by kernel_rfl
theorem awF_text : txtF (prF awF) = [110, 111, 116, 32, 120, 32, 60, 32, 120] := by kernel_rfl
theorem awF_exp : expF (prF awF) = [] := by kernel_rfl
theorem xN_at (w : World) : TmAt w (fun _ => False) (.name xN) (.iface 47 (.agg #[.string xN])) := ⟨rfl, by decide⟩
theorem awF_at (w : World) : FoAt w (fun _ => False) awF (.iface 53 (.agg #[.iface 51 (.agg #[.iface 47 (.agg #[.string xN]), .int .i64 1, .iface 47 (.agg #[.string xN])])])) :=
 ⟨_, rfl, _, _, rfl, xN_at w, xN_at w⟩
mutual
def smB : Tr → Bool
 | .mk h ks => decide (h.abs.length ≤ 20) && (decide (h.name.size ≤ 40) && smBL ks)
def smBL : List Tr → Bool
 | [] => true
 | k :: ks => smB k && smBL ks
end
mutual
theorem smB_sm : ∀ t : Tr, smB t = true → Sm t
 | .mk h ks, e => by
  unfold smB at e
  simp only [Bool.and_eq_true, decide_eq_true_eq] at e
  unfold Sm
  exact ⟨e.1, e.2.1, smBL_sm ks e.2.2⟩
theorem smBL_sm : ∀ ks : List Tr, smBL ks = true → SmL ks
 | [], _ => by unfold SmL; trivial
 | k :: ks, e => by
  unfold smBL at e
  simp only [Bool.and_eq_true] at e
  unfold SmL
  exact ⟨smB_sm k e.1, smBL_sm ks e.2⟩
end
theorem awF_sm : Sm (plainF awF) := smB_sm _ (by kernel_rfl)
theorem awake_any (w : World) : Calls Tryz.prog 5 #[] w fun e w' => e = .returned (.bool true) ∧ Below w.heap.size w w' := by
 have HF := h_ (fun w' => format_ok awF _ _ w' (fun b h => h.elim) (awF_at w') ⟨trivial, trivial⟩ awF_sm awF_named (by rw [awF_exp]; simp) (by rw [awF_text]; decide) ⟨#[110, 111, 116, 32, 120, 32, 60, 32, 120]⟩ (by rw [awF_text]; rfl))
 go_enter Tryz.func5, Tryz.ntmps5
 go_wp2_with fail
 refine (HF.out _).mono ?_
 rintro e w1 ⟨rfl, hb⟩
 have HB := h_ hb
 clear hb
 go_wp2
 go_ret
 exact ⟨rfl, ((Below.refl _ w).alloc (Nat.le_refl _) _).trans (HB.out.mono (by simp))⟩
end Pr
end Go.Proofs.YteneobpacobpdaaGreatDoor
namespace Go.Proofs.YteneobpacobpdaaGreatDoor
open Go.Shelf
def itoa_ren : Go.Shelf.Ren := ⟨fun | 171 => 74 | 243 => 87 | 246 => 96 | 283 => 101 | 284 => 102 | 285 => 103 | 286 => 104 | 129 => 110 | 317 => 109 | 318 => 111 | 319 => 112 | 320 => 113 | 337 => 119 | 338 => 120 | n => n, fun | 3 => 3 | 9 => 9 | 2 => 2 | 4 => 4 | 171 => 168 | 0 => 0 | 53 => 169 | 37 => 67 | 5 => 5 | 173 => 172 | 212 => 178 | 51 => 162 | 20 => 20 | 213 => 179 | 46 => 180 | 232 => 189 | 233 => 190 | n => n, fun | 17 => 0 | 18 => 2 | 19 => 3 | n => n⟩
theorem itoa_lays : Go.Proofs.LaysM.n171 Tryz.prog itoa_ren := {
 mixed := by kernel_rfl
 f129 := Tryz.func110.trans (congrArg some (by kernel_rfl))
 f171 := Tryz.func74.trans (congrArg some (by kernel_rfl))
 f243 := Tryz.func87.trans (congrArg some (by kernel_rfl))
 f246 := Tryz.func96.trans (congrArg some (by kernel_rfl))
 f283 := Tryz.func101.trans (congrArg some (by kernel_rfl))
 f284 := Tryz.func102.trans (congrArg some (by kernel_rfl))
 f285 := Tryz.func103.trans (congrArg some (by kernel_rfl))
 f286 := Tryz.func104.trans (congrArg some (by kernel_rfl))
 f317 := Tryz.func109.trans (congrArg some (by kernel_rfl))
 f318 := Tryz.func111.trans (congrArg some (by kernel_rfl))
 f319 := Tryz.func112.trans (congrArg some (by kernel_rfl))
 f320 := Tryz.func113.trans (congrArg some (by kernel_rfl))
 f337 := Tryz.func119.trans (congrArg some (by kernel_rfl))
 f338 := Tryz.func120.trans (congrArg some (by kernel_rfl))
 t0 := Tryz.underlying0
 a0 := Tryz.isAgg0
 z0 := Tryz.sizeOf0
 v0 := Tryz.zeroValue0
 t2 := Tryz.underlying2
 a2 := Tryz.isAgg2
 z2 := Tryz.sizeOf2
 v2 := Tryz.zeroValue2
 t3 := Tryz.underlying3
 a3 := Tryz.isAgg3
 z3 := Tryz.sizeOf3
 v3 := Tryz.zeroValue3
 t4 := Tryz.underlying4
 a4 := Tryz.isAgg4
 z4 := Tryz.sizeOf4
 v4 := Tryz.zeroValue4
 t5 := Tryz.underlying5
 a5 := Tryz.isAgg5
 z5 := Tryz.sizeOf5
 v5 := Tryz.zeroValue5
 t9 := Tryz.underlying9
 a9 := Tryz.isAgg9
 z9 := Tryz.sizeOf9
 v9 := Tryz.zeroValue9
 t20 := Tryz.underlying20
 a20 := Tryz.isAgg20
 z20 := Tryz.sizeOf20
 v20 := Tryz.zeroValue20
 t37 := Tryz.underlying67
 a37 := Tryz.isAgg67
 z37 := Tryz.sizeOf67
 v37 := Tryz.zeroValue67
 t46 := Tryz.underlying180
 a46 := Tryz.isAgg180
 z46 := Tryz.sizeOf180
 v46 := Tryz.zeroValue180
 t51 := Tryz.underlying162
 a51 := Tryz.isAgg162
 z51 := Tryz.sizeOf162
 v51 := Tryz.zeroValue162
 t53 := Tryz.underlying169
 a53 := Tryz.isAgg169
 z53 := Tryz.sizeOf169
 v53 := Tryz.zeroValue169
 t171 := Tryz.underlying168
 a171 := Tryz.isAgg168
 z171 := Tryz.sizeOf168
 v171 := Tryz.zeroValue168
 t173 := Tryz.underlying172
 a173 := Tryz.isAgg172
 z173 := Tryz.sizeOf172
 v173 := Tryz.zeroValue172
 t212 := Tryz.underlying178
 a212 := Tryz.isAgg178
 z212 := Tryz.sizeOf178
 v212 := Tryz.zeroValue178
 t213 := Tryz.underlying179
 a213 := Tryz.isAgg179
 z213 := Tryz.sizeOf179
 t232 := Tryz.underlying189
 a232 := Tryz.isAgg189
 z232 := Tryz.sizeOf189
 v232 := Tryz.zeroValue189
 t233 := Tryz.underlying190
 a233 := Tryz.isAgg190
 z233 := Tryz.sizeOf190
 v233 := Tryz.zeroValue190
 g17 := by kernel_rfl
 g18 := by kernel_rfl
 g19 := by kernel_rfl
 i0 := by kernel_rfl
 i2 := by kernel_rfl
 i3 := by kernel_rfl
 i4 := by kernel_rfl
 i5 := by kernel_rfl
 i9 := by kernel_rfl
 i20 := by kernel_rfl
 i37 := by kernel_rfl
 i46 := by kernel_rfl
 i51 := by kernel_rfl
 i53 := by kernel_rfl
 i171 := by kernel_rfl
 i173 := by kernel_rfl
 i212 := by kernel_rfl
 i232 := by kernel_rfl
 i233 := by kernel_rfl
 m17 := by kernel_rfl
 m18 := by kernel_rfl
 m19 := by kernel_rfl }
open Go.RowKit Go.Sort Go.Lib in
theorem itoa_any (n : Int) (h0 : -9223372036854775808 ≤ n) (h1 : n ≤ 9223372036854775807) (w : World) (htab : Lib.TabIs Tryz.prog w "internal/strconv.uint64pow10" .u64 Lib.pow10Tab) :
  Calls Tryz.prog 74 #[.int .i64 n] w fun e w' => e = .returned (.string ⟨(Lib.itoa n).toArray⟩) ∧ ∃ k os, w' = grow (w.drewN k) os := Any.strconv_Itoa itoa_lays n h0 h1 w htab
namespace Pr
open Go.RowKit Go.Sort Dc
theorem dec_digits : ∀ (m n : Nat), n ≤ m → 0 < n → Lib.decDigits n = (revd n).reverse.map asc
 | 0, n, h, hp => by omega
 | m + 1, n, h, hp => by
  unfold Lib.decDigits
  rw [revd_pos hp]
  by_cases h0 : n < 10
  ·rw [dif_pos h0, show n / 10 = 0 by omega, revd_zero, show n % 10 = n by omega]
   rfl
  ·rw [dif_neg h0, dec_digits m (n / 10) (by omega) (by omega), List.reverse_cons, List.map_append]
   rfl
theorem fmt_digits (n : Nat) : fmtL false n = Lib.decDigits n := by
 unfold fmtL
 by_cases h : n = 0
 ·rw [if_pos h, h]; unfold Lib.decDigits; rfl
 ·rw [if_neg h, dec_digits n n (Nat.le_refl _) (by omega)]; rfl
theorem fmt_itoa (e : Int) (h : 0 ≤ e) : fmtS false e.toNat = ⟨(Lib.itoa e).toArray⟩ := by
 unfold fmtS Lib.itoa
 rw [fmt_digits, if_neg (by omega)]
theorem itoa_ok (w0 : World) (htab : Lib.TabIs Tryz.prog w0 "internal/strconv.uint64pow10" .u64 Lib.pow10Tab) (e : Int) (h0 : 0 ≤ e) (h1 : e ≤ 9223372036854775807) : ItW w0 e := by
 intro w hb
 rw [fmt_itoa e h0]
 refine (itoa_any e (by omega) h1 w (Lib.tabBelow_of_tabIs htab w hb)).mono ?_
 rintro r w2 ⟨rfl, k, os, rfl⟩
 exact ⟨rfl, Lib.below_grow _ w (Nat.le_refl _) k os⟩
end Pr
end Go.Proofs.YteneobpacobpdaaGreatDoor
