/-
  ParserArithmetic: for every six numbers, five operations and signs the law returns true: sums and products have the value that the usual rules give. No condition.
-/
import Derived.Test.YtkjbfomokdjbnaaPbD
import Derived.Test.YtkjbfomokdjbnaaPaZ
import Derived.Test.YtkjbfomokdjbnaaRows
import Derived.ProofKit
import Derived.OpenShut
import Derived.ShutString
import Derived.Laws.IdiomStrings
namespace Go.Proofs.Ytkjbfomokdjbnaa.parserArithmetic
open Go.ChangeShapes Go.WideShapes Go.ChangeAt Go.RowKit Go.Proofs.Ytkjbfomokdjbnaa Go.Proofs.Ytkjbfomokdjbnaa.Lx Go.Proofs.Ytkjbfomokdjbnaa.Fm Go.Proofs.Ytkjbfomokdjbnaa.Pa
open Go.ChangeMaps (open_string shut_string)
set_option linter.unusedVariables false
set_option linter.unusedSimpArgs false
attribute [local go_sem] run_store
theorem bs_cat (a b : Bytes) : bs a ++ bs b = bs (a ++ b) := WideShapes.bytes_inj (by simp [bs])
/-- the numbers, the operations, the signs by place -/
structure Dat where
  a : Nat → Nat
  b : Nat → Nat
  c : Nat
def Dat.d (D : Dat) (i : Nat) : Nat := D.a i % 10
def Dat.n (D : Dat) (i : Nat) : Bool := bits BinOp.and IntKind.u8 ((D.c : Int) / 2 ^ i) 1 == 1
def Dat.o (D : Dat) (i : Nat) : Nat := D.b i % 3
def Dat.its (D : Dat) (k : Nat) : List Itm := (List.range k).map fun i => (D.o i, D.n (i + 1), D.d (i + 1))
def Dat.tx (D : Dat) : Nat → Bytes
  | 0 => []
  | k + 1 => arS (D.n 0) (D.d 0) (D.its k)
def stepI (s : Int × Int) (i : Itm) : Int × Int := if i.1 = 2 then (s.1, s.2 * sv i.2.1 i.2.2) else if i.1 = 1 then (s.1 + s.2, -sv i.2.1 i.2.2) else (s.1 + s.2, sv i.2.1 i.2.2)
theorem evI_fold : ∀ (l : List Itm) (t p : Int), evI l t p = (l.foldl stepI (t, p)).1 + (l.foldl stepI (t, p)).2
  | [], t, p => rfl
  | i :: r, t, p => by
    unfold evI
    rw [List.foldl_cons]
    unfold stepI
    split
    · exact evI_fold r _ _
    · split
      · exact evI_fold r _ _
      · exact evI_fold r _ _
def Dat.st (D : Dat) : Nat → Int × Int
  | 0 => (0, 0)
  | k + 1 => (D.its k).foldl stepI (0, sv (D.n 0) (D.d 0))
theorem Dat.its_succ (D : Dat) (k : Nat) : D.its (k + 1) = D.its k ++ [(D.o k, D.n (k + 1), D.d (k + 1))] := by unfold Dat.its; rw [List.range_succ]; simp
theorem Dat.tx_succ (D : Dat) (k : Nat) : D.tx (k + 2) = D.tx (k + 1) ++ (32 :: (opC (D.o k) ++ [32]) ++ (aS (D.n (k + 1)) (D.d (k + 1)))) := by
  show arS _ _ (D.its (k + 1)) = arS _ _ (D.its k) ++ _
  rw [D.its_succ]
  unfold arS
  simp
theorem Dat.st_succ (D : Dat) (k : Nat) : D.st (k + 2) = stepI (D.st (k + 1)) (D.o k, D.n (k + 1), D.d (k + 1)) := by
  show (D.its (k + 1)).foldl _ _ = stepI ((D.its k).foldl _ _) _
  rw [D.its_succ, List.foldl_append]; rfl
theorem Dat.ok (D : Dat) (k : Nat) : okI (D.its k) := by
  intro i hi
  unfold Dat.its at hi
  obtain ⟨j, -, rfl⟩ := List.mem_map.1 hi
  exact ⟨Nat.mod_lt _ (by omega), Nat.mod_lt _ (by omega)⟩
theorem sv_le (n : Bool) (d : Nat) (hd : d < 10) : (sv n d).natAbs ≤ 9 := by unfold sv; split <;> omega
/-- the two values stay small -/
theorem Dat.small (D : Dat) : ∀ k, (D.st k).1.natAbs ≤ 10 ^ k ∧ (D.st k).2.natAbs ≤ 10 ^ k
  | 0 => ⟨by show (0 : Int).natAbs ≤ 1; decide, by show (0 : Int).natAbs ≤ 1; decide⟩
  | 1 => by
    have h := sv_le (D.n 0) (D.d 0) (Nat.mod_lt _ (by omega))
    refine ⟨by show (0 : Int).natAbs ≤ 10; decide, ?_⟩
    show (sv _ _).natAbs ≤ 10
    omega
  | k + 2 => by
    obtain ⟨h1, h2⟩ := D.small (k + 1)
    rw [D.st_succ]
    have h := sv_le (D.n (k + 1)) (D.d (k + 1)) (Nat.mod_lt _ (by omega))
    have e : 10 ^ (k + 2) = 10 ^ (k + 1) * 10 := rfl
    have hp : 1 ≤ 10 ^ (k + 1) := Nat.pos_of_ne_zero (by simp)
    rw [e]
    generalize 10 ^ (k + 1) = M at *
    unfold stepI
    split
    · refine ⟨by show (D.st (k + 1)).1.natAbs ≤ _; omega, ?_⟩
      show ((D.st (k + 1)).2 * sv _ _).natAbs ≤ _
      rw [Int.natAbs_mul]
      exact Nat.mul_le_mul h2 (by show (sv (D.n (k + 1)) (D.d (k + 1))).natAbs ≤ 10; omega)
    · split
      · refine ⟨by show ((D.st (k + 1)).1 + (D.st (k + 1)).2).natAbs ≤ _; omega, ?_⟩
        show (-sv (D.n (k + 1)) (D.d (k + 1))).natAbs ≤ _
        omega
      · refine ⟨by show ((D.st (k + 1)).1 + (D.st (k + 1)).2).natAbs ≤ _; omega, ?_⟩
        show (sv (D.n (k + 1)) (D.d (k + 1))).natAbs ≤ _
        omega
theorem Dat.tx_len (D : Dat) : ∀ k, (D.tx k).length ≤ 5 * k
  | 0 => Nat.le_refl _
  | 1 => by show (aS _ _ ++ []).length ≤ 5; unfold aS; split <;> simp [dgt]
  | k + 2 => by
    have h := D.tx_len (k + 1)
    rw [D.tx_succ, List.length_append]
    have h2 : (aS (D.n (k + 1)) (D.d (k + 1))).length ≤ 2 := by unfold aS; split <;> simp [dgt]
    have h3 : (opC (D.o k)).length = 1 := by unfold opC; split; rfl; split <;> rfl
    simp only [List.length_append, List.length_cons, List.length_nil, h3]
    omega
theorem rune0 (w : World) : (convert 21 9 (.int .i32 48)).run Try.prog w = .ok (.string ⟨#[48]⟩) w := by kernel_rfl
theorem rune1 (w : World) : (convert 21 9 (.int .i32 49)).run Try.prog w = .ok (.string ⟨#[49]⟩) w := by kernel_rfl
theorem rune2 (w : World) : (convert 21 9 (.int .i32 50)).run Try.prog w = .ok (.string ⟨#[50]⟩) w := by kernel_rfl
theorem rune3 (w : World) : (convert 21 9 (.int .i32 51)).run Try.prog w = .ok (.string ⟨#[51]⟩) w := by kernel_rfl
theorem rune4 (w : World) : (convert 21 9 (.int .i32 52)).run Try.prog w = .ok (.string ⟨#[52]⟩) w := by kernel_rfl
theorem rune5 (w : World) : (convert 21 9 (.int .i32 53)).run Try.prog w = .ok (.string ⟨#[53]⟩) w := by kernel_rfl
theorem rune6 (w : World) : (convert 21 9 (.int .i32 54)).run Try.prog w = .ok (.string ⟨#[54]⟩) w := by kernel_rfl
theorem rune7 (w : World) : (convert 21 9 (.int .i32 55)).run Try.prog w = .ok (.string ⟨#[55]⟩) w := by kernel_rfl
theorem rune8 (w : World) : (convert 21 9 (.int .i32 56)).run Try.prog w = .ok (.string ⟨#[56]⟩) w := by kernel_rfl
theorem rune9 (w : World) : (convert 21 9 (.int .i32 57)).run Try.prog w = .ok (.string ⟨#[57]⟩) w := by kernel_rfl
theorem rune_any (d : Nat) (hd : d < 10) (w : World) : (convert 21 9 (.int .i32 (48 + (d : Int)))).run Try.prog w = .ok (.string (bs (dgt d))) w := by
  match d, hd with
  | 0, _ => exact rune0 w
  | 1, _ => exact rune1 w
  | 2, _ => exact rune2 w
  | 3, _ => exact rune3 w
  | 4, _ => exact rune4 w
  | 5, _ => exact rune5 w
  | 6, _ => exact rune6 w
  | 7, _ => exact rune7 w
  | 8, _ => exact rune8 w
  | 9, _ => exact rune9 w

set_option maxRecDepth 100000 in
set_option maxHeartbeats 8000000 in
theorem core (a0 a1 a2 a3 a4 a5 b0 b1 b2 b3 b4 c : Nat) (D : Dat) (ha0 : D.a 0 = a0) (ha1 : D.a 1 = a1) (ha2 : D.a 2 = a2) (ha3 : D.a 3 = a3) (ha4 : D.a 4 = a4) (ha5 : D.a 5 = a5) (hb0 : D.b 0 = b0) (hb1 : D.b 1 = b1) (hb2 : D.b 2 = b2) (hb3 : D.b 3 = b3) (hb4 : D.b 4 = b4) (hc : D.c = c) (hA : ∀ i, D.a i ≤ 255) (hB : ∀ i, D.b i ≤ 255) (hC : c ≤ 255) (w : World) :
    Calls Try.prog 7 #[.agg #[.int .u8 (a0 : Int), .int .u8 (a1 : Int), .int .u8 (a2 : Int), .int .u8 (a3 : Int), .int .u8 (a4 : Int), .int .u8 (a5 : Int)], .agg #[.int .u8 (b0 : Int), .int .u8 (b1 : Int), .int .u8 (b2 : Int), .int .u8 (b3 : Int), .int .u8 (b4 : Int)], .int .u8 (c : Int)] w fun e w' => e = .returned (.bool true) ∧ Below w.heap.size w w' := by
  obtain ⟨W, hW⟩ : ∃ W, (w.alloc (.cells #[.int .u8 (a0 : Int), .int .u8 (a1 : Int), .int .u8 (a2 : Int), .int .u8 (a3 : Int), .int .u8 (a4 : Int), .int .u8 (a5 : Int)] 52)).alloc (.cells #[.int .u8 (b0 : Int), .int .u8 (b1 : Int), .int .u8 (b2 : Int), .int .u8 (b3 : Int), .int .u8 (b4 : Int)] 53) = W := ⟨_, rfl⟩
  have hz : (w.alloc (.cells #[.int .u8 (a0 : Int), .int .u8 (a1 : Int), .int .u8 (a2 : Int), .int .u8 (a3 : Int), .int .u8 (a4 : Int), .int .u8 (a5 : Int)] 52)).heap.size = w.heap.size + 1 := by simp
  have hbW : Below w.heap.size w W := by rw [← hW]; exact ((Below.refl _ w).alloc (Nat.le_refl _) _).alloc (by simp) _
  have hbw1 : Below (w.alloc (.cells #[.int .u8 (a0 : Int), .int .u8 (a1 : Int), .int .u8 (a2 : Int), .int .u8 (a3 : Int), .int .u8 (a4 : Int), .int .u8 (a5 : Int)] 52)).heap.size (w.alloc (.cells #[.int .u8 (a0 : Int), .int .u8 (a1 : Int), .int .u8 (a2 : Int), .int .u8 (a3 : Int), .int .u8 (a4 : Int), .int .u8 (a5 : Int)] 52)) W := by rw [← hW]; exact (Below.refl _ _).alloc (Nat.le_refl _) _
  have hsW : w.heap.size + 2 ≤ W.heap.size := by rw [← hW]; simp
  have cA : ∀ i, i < 6 → W.cell? ⟨w.heap.size, i, none⟩ = some (.int .u8 ((D.a i : Nat) : Int)) := by
    intro i hi
    rw [hbw1.cell (by rw [hz]; show w.heap.size < _; omega), cell_new]
    match i, hi with
    | 0, _ => rw [ha0]; rfl
    | 1, _ => rw [ha1]; rfl
    | 2, _ => rw [ha2]; rfl
    | 3, _ => rw [ha3]; rfl
    | 4, _ => rw [ha4]; rfl
    | 5, _ => rw [ha5]; rfl
  have cB : ∀ i, i < 5 → W.cell? ⟨w.heap.size + 1, i, none⟩ = some (.int .u8 ((D.b i : Nat) : Int)) := by
    intro i hi
    rw [← hW, ← hz, cell_new]
    match i, hi with
    | 0, _ => rw [hb0]; rfl
    | 1, _ => rw [hb1]; rfl
    | 2, _ => rw [hb2]; rfl
    | 3, _ => rw [hb3]; rfl
    | 4, _ => rw [hb4]; rfl
  have HA := Lib.hid hA
  have HB := Lib.hid hB
  have CA := Lib.hid cA
  have CB := Lib.hid cB
  have HBW := Lib.hid hbW
  have HSW := Lib.hid hsW
  have HCC := Lib.hid hc
  clear hA hB cA cB hbW hbw1 hz hsW hc ha0 ha1 ha2 ha3 ha4 ha5 hb0 hb1 hb2 hb3 hb4
  go_enter Try.func7, Try.ntmps7
  go_wp2_with fail
  refine (awake_any _).mono ?_
  rintro e w1 ⟨rfl, hb1⟩
  have HB1 := Lib.hid hb1
  clear hb1 hW
  go_wp2_with fail
  go_loopw [7, 8, 9, 18] (fun x t p i wr => ∃ (j : Nat) (T P : Int), j ≤ 6 ∧ i = .int .i64 j ∧ t = .int .i64 T ∧ p = .int .i64 P ∧ Hid (x = .string (bs (D.tx j)) ∧ D.st j = (T, P)) ∧ Hid (Below W.heap.size W wr)) (fun _ _ _ i _ => 6 - (intOf i).toNat)
  case atStart => exact ⟨0, 0, 0, by omega, rfl, rfl, rfl, Lib.hid ⟨rfl, rfl⟩, HB1⟩
  case round =>
    obtain ⟨j, T, P, hj, rfl, rfl, rfl, hrel, HBr⟩ := hrel
    obtain ⟨hx, hst⟩ := hrel.out
    subst hx
    have hsm := D.small j
    rw [hst] at hsm
    dsimp only at hsm
    have hpow : 10 ^ j ≤ 10 ^ 6 := Nat.pow_le_pow_right (by omega) hj
    have hT : -1000000 ≤ T ∧ T ≤ 1000000 := by omega
    have hP : -1000000 ≤ P ∧ P ≤ 1000000 := by omega
    have hln := D.tx_len j
    have hsz : (bs (D.tx j)).size ≤ 30 := by rw [bs_size]; omega
    clear hsm hpow hln
    by_cases hlt : j < 6
    · have hlti : (j : Int) < 6 := by omega
      have hca := (HBr.out.cell (p := ⟨w.heap.size, j, none⟩) (Nat.lt_of_lt_of_le (show w.heap.size < w.heap.size + 2 by omega) HSW.out)).trans (CA.out j hlt)
      obtain ⟨d, hd⟩ : ∃ d, d = D.d j := ⟨_, rfl⟩
      have hd10 : d < 10 := by rw [hd]; exact Nat.mod_lt _ (by omega)
      have hdi : ((D.a j : Nat) : Int) % 10 = (d : Int) := by rw [hd]; unfold Dat.d; omega
      have hai := HA.out j
      have hrn := rune_any d hd10
      obtain ⟨n, hn⟩ : ∃ n, n = D.n j := ⟨_, rfl⟩
      have hbit : (bits BinOp.and IntKind.u8 ((c : Int) / 2 ^ j) 1 == 1) = n := by rw [hn, ← HCC.out]; rfl
      have hw48 : IntKind.u8.wrap (48 + (d : Int)) = 48 + (d : Int) := IntWalk.u8_in _ (by omega)
      have sd : (bs (dgt d)).size = 1 := rfl
      have sx : ∀ y : ByteArray, (bs (D.tx j) ++ y).size = (bs (D.tx j)).size + y.size := fun y => ByteArray.size_append
      obtain ⟨ai, hai2⟩ : ∃ ai, ai = D.a j := ⟨_, rfl⟩
      rw [← hai2] at hca hdi hai
      clear hai2
      cases j with
      | zero =>
        obtain ⟨rfl, rfl⟩ : T = 0 ∧ P = 0 := by have h : ((0 : Int), (0 : Int)) = (T, P) := hst; injection h with h1 h2; exact ⟨h1.symm, h2.symm⟩
        have HST := Lib.hid (show D.st (0 + 1) = (0, sv n d) by rw [hn, hd]; rfl)
        have HTX := Lib.hid (show D.tx (0 + 1) = aS n d by rw [hn, hd]; show aS _ _ ++ [] = _; simp)
        have hx0 : bs (D.tx 0) = ⟨#[]⟩ := rfl
        rw [hx0] at hsz sx ⊢
        have hbit0 : (bits BinOp.and IntKind.u8 (c : Int) 1 == 1) = n := by rw [← hbit, Int.pow_zero, Int.ediv_one]
        clear hx0 hd hn hst hrel hbit
        cases n with
        | true =>
          have HT2 := Lib.hid (show (⟨#[]⟩ : ByteArray) ++ ⟨#[45]⟩ ++ bs (dgt d) = bs (D.tx (0 + 1)) by rw [HTX.out, show (⟨#[]⟩ : ByteArray) ++ ⟨#[45]⟩ = bs [45] from rfl, bs_cat]; rfl)
          go_wp2
          go_roundw
          case rel => exact ⟨0 + 1, 0, -(d : Int), by omega, by go_num, by go_num, by go_num, Lib.hid ⟨by rw [← HT2.out], HST.out⟩, HBr⟩
          case measure => (simp [intOf] <;> omega)
        | false =>
          have HT2 := Lib.hid (show (⟨#[]⟩ : ByteArray) ++ bs (dgt d) = bs (D.tx (0 + 1)) by rw [HTX.out, show (⟨#[]⟩ : ByteArray) = bs [] from rfl, bs_cat]; rfl)
          go_wp2
          go_roundw
          case rel => exact ⟨0 + 1, 0, (d : Int), by omega, by go_num, by go_num, by go_num, Lib.hid ⟨by rw [← HT2.out], HST.out⟩, HBr⟩
          case measure => (simp [intOf] <;> omega)
      | succ k =>
        have hs2 := D.st_succ k
        have ht2 := D.tx_succ k
        rw [hst, ← hd, ← hn] at hs2
        rw [← hd, ← hn] at ht2
        obtain ⟨q, hq⟩ : ∃ q, q = D.o k := ⟨_, rfl⟩
        rw [← hq] at hs2 ht2
        have hq3 : q < 3 := by rw [hq]; exact Nat.mod_lt _ (by omega)
        have hal : Below W.heap.size W (wr.alloc (.cells #[.string ⟨#[43]⟩, .string ⟨#[45]⟩, .string ⟨#[42]⟩] 9)) := HBr.out.alloc HBr.out.size _
        have hcb := (hal.cell (p := ⟨w.heap.size + 1, k, none⟩) (Nat.lt_of_lt_of_le (show w.heap.size + 1 < w.heap.size + 2 by omega) HSW.out)).trans (CB.out k (by omega))
        have hca2 := (hal.cell (p := ⟨w.heap.size, k + 1, none⟩) (Nat.lt_of_lt_of_le (show w.heap.size < w.heap.size + 2 by omega) HSW.out)).trans ((HBr.out.cell (p := ⟨w.heap.size, k + 1, none⟩) (Nat.lt_of_lt_of_le (show w.heap.size < w.heap.size + 2 by omega) HSW.out)).symm.trans hca)
        have HAL := Lib.hid hal
        have hqi : ((D.b k : Nat) : Int) % 3 = (q : Int) := by rw [hq]; unfold Dat.o; omega
        have hbi := HB.out k
        obtain ⟨bi, hbi2⟩ : ∃ bi, bi = D.b k := ⟨_, rfl⟩
        rw [← hbi2] at hcb hqi hbi
        have HS2 := Lib.hid hs2
        have HT2 := Lib.hid ht2
        obtain ⟨tx, htx⟩ : ∃ tx, tx = bs (D.tx (k + 1)) := ⟨_, rfl⟩
        rw [← htx] at hsz sx ⊢
        have HTX := Lib.hid htx
        have hwk : IntKind.i64.wrap (((k + 1 : Nat) : Int) - 1) = (k : Int) := by rw [show ((k + 1 : Nat) : Int) - 1 = (k : Int) by omega]; exact IntWalk.i64_in _ (by omega)
        have hwk2 : IntKind.i64.wrap ((k : Int) + 1 - 1) = (k : Int) := by rw [show (k : Int) + 1 - 1 = (k : Int) by omega]; exact IntWalk.i64_in _ (by omega)
        have hkp : (0 : Int) < (k : Int) + 1 := by omega
        have hki : (k : Int) < 5 := by omega
        have hpd1 : -9000000 ≤ P * (d : Int) ∧ P * (d : Int) ≤ 9000000 := by
          have h1 := Int.natAbs_mul P d
          have h2 : P.natAbs * (d : Int).natAbs ≤ 1000000 * 9 := Nat.mul_le_mul (by omega) (by omega)
          omega
        have hpd2 : -9000000 ≤ P * -(d : Int) ∧ P * -(d : Int) ≤ 9000000 := by rw [Int.mul_neg]; omega
        clear hs2 ht2 hq hal hbi2 htx hd hn hst hrel
        have three : q = 0 ∨ q = 1 ∨ q = 2 := by omega
        rcases three with h | h | h
        · subst h
          cases n with
          | true =>
            have HX := Lib.hid (show tx ++ (⟨#[32]⟩ ++ ⟨#[43]⟩ ++ ⟨#[32]⟩) ++ ⟨#[45]⟩ ++ bs (dgt d) = bs (D.tx (k + 2)) by
              rw [HT2.out, HTX.out, show (⟨#[32]⟩ ++ ⟨#[43]⟩ ++ ⟨#[32]⟩ : ByteArray) = bs (32 :: (opC 0 ++ [32])) from rfl, show (⟨#[45]⟩ : ByteArray) = bs [45] from rfl, bs_cat, bs_cat, bs_cat]
              unfold aS
              simp)
            have s1 : (⟨#[32]⟩ ++ ⟨#[43]⟩ ++ ⟨#[32]⟩ : ByteArray).size = 3 := rfl
            have s2 : (tx ++ (⟨#[32]⟩ ++ ⟨#[43]⟩ ++ ⟨#[32]⟩ : ByteArray)).size = tx.size + 3 := by rw [ByteArray.size_append]; rfl
            have s3 : (tx ++ (⟨#[32]⟩ ++ ⟨#[43]⟩ ++ ⟨#[32]⟩ : ByteArray) ++ ⟨#[45]⟩).size = tx.size + 4 := by rw [ByteArray.size_append, s2]; rfl
            go_wp2
            go_roundw
            case rel => exact ⟨k + 2, T + P, -(d : Int), by omega, by go_num, by go_num, by go_num, Lib.hid ⟨by rw [← HX.out], by rw [HS2.out]; rfl⟩, HAL⟩
            case measure => (simp [intOf] <;> omega)
          | false =>
            have HX := Lib.hid (show tx ++ (⟨#[32]⟩ ++ ⟨#[43]⟩ ++ ⟨#[32]⟩) ++ bs (dgt d) = bs (D.tx (k + 2)) by
              rw [HT2.out, HTX.out, show (⟨#[32]⟩ ++ ⟨#[43]⟩ ++ ⟨#[32]⟩ : ByteArray) = bs (32 :: (opC 0 ++ [32])) from rfl, bs_cat, bs_cat]
              unfold aS
              simp)
            have s1 : (⟨#[32]⟩ ++ ⟨#[43]⟩ ++ ⟨#[32]⟩ : ByteArray).size = 3 := rfl
            have s2 : (tx ++ (⟨#[32]⟩ ++ ⟨#[43]⟩ ++ ⟨#[32]⟩ : ByteArray)).size = tx.size + 3 := by rw [ByteArray.size_append]; rfl
            have s3 : (tx ++ (⟨#[32]⟩ ++ ⟨#[43]⟩ ++ ⟨#[32]⟩ : ByteArray) ++ ⟨#[45]⟩).size = tx.size + 4 := by rw [ByteArray.size_append, s2]; rfl
            go_wp2
            go_roundw
            case rel => exact ⟨k + 2, T + P, (d : Int), by omega, by go_num, by go_num, by go_num, Lib.hid ⟨by rw [← HX.out], by rw [HS2.out]; rfl⟩, HAL⟩
            case measure => (simp [intOf] <;> omega)
        · subst h
          cases n with
          | true =>
            have HX := Lib.hid (show tx ++ (⟨#[32]⟩ ++ ⟨#[45]⟩ ++ ⟨#[32]⟩) ++ ⟨#[45]⟩ ++ bs (dgt d) = bs (D.tx (k + 2)) by
              rw [HT2.out, HTX.out, show (⟨#[32]⟩ ++ ⟨#[45]⟩ ++ ⟨#[32]⟩ : ByteArray) = bs (32 :: (opC 1 ++ [32])) from rfl, show (⟨#[45]⟩ : ByteArray) = bs [45] from rfl, bs_cat, bs_cat, bs_cat]
              unfold aS
              simp)
            have s1 : (⟨#[32]⟩ ++ ⟨#[45]⟩ ++ ⟨#[32]⟩ : ByteArray).size = 3 := rfl
            have s2 : (tx ++ (⟨#[32]⟩ ++ ⟨#[45]⟩ ++ ⟨#[32]⟩ : ByteArray)).size = tx.size + 3 := by rw [ByteArray.size_append]; rfl
            have s3 : (tx ++ (⟨#[32]⟩ ++ ⟨#[45]⟩ ++ ⟨#[32]⟩ : ByteArray) ++ ⟨#[45]⟩).size = tx.size + 4 := by rw [ByteArray.size_append, s2]; rfl
            go_wp2
            go_roundw
            case rel => exact ⟨k + 2, T + P, - -(d : Int), by omega, by go_num, by go_num, by go_num, Lib.hid ⟨by rw [← HX.out], by rw [HS2.out]; rfl⟩, HAL⟩
            case measure => (simp [intOf] <;> omega)
          | false =>
            have HX := Lib.hid (show tx ++ (⟨#[32]⟩ ++ ⟨#[45]⟩ ++ ⟨#[32]⟩) ++ bs (dgt d) = bs (D.tx (k + 2)) by
              rw [HT2.out, HTX.out, show (⟨#[32]⟩ ++ ⟨#[45]⟩ ++ ⟨#[32]⟩ : ByteArray) = bs (32 :: (opC 1 ++ [32])) from rfl, bs_cat, bs_cat]
              unfold aS
              simp)
            have s1 : (⟨#[32]⟩ ++ ⟨#[45]⟩ ++ ⟨#[32]⟩ : ByteArray).size = 3 := rfl
            have s2 : (tx ++ (⟨#[32]⟩ ++ ⟨#[45]⟩ ++ ⟨#[32]⟩ : ByteArray)).size = tx.size + 3 := by rw [ByteArray.size_append]; rfl
            have s3 : (tx ++ (⟨#[32]⟩ ++ ⟨#[45]⟩ ++ ⟨#[32]⟩ : ByteArray) ++ ⟨#[45]⟩).size = tx.size + 4 := by rw [ByteArray.size_append, s2]; rfl
            go_wp2
            go_roundw
            case rel => exact ⟨k + 2, T + P, -(d : Int), by omega, by go_num, by go_num, by go_num, Lib.hid ⟨by rw [← HX.out], by rw [HS2.out]; rfl⟩, HAL⟩
            case measure => (simp [intOf] <;> omega)
        · subst h
          cases n with
          | true =>
            have HX := Lib.hid (show tx ++ (⟨#[32]⟩ ++ ⟨#[42]⟩ ++ ⟨#[32]⟩) ++ ⟨#[45]⟩ ++ bs (dgt d) = bs (D.tx (k + 2)) by
              rw [HT2.out, HTX.out, show (⟨#[32]⟩ ++ ⟨#[42]⟩ ++ ⟨#[32]⟩ : ByteArray) = bs (32 :: (opC 2 ++ [32])) from rfl, show (⟨#[45]⟩ : ByteArray) = bs [45] from rfl, bs_cat, bs_cat, bs_cat]
              unfold aS
              simp)
            have s1 : (⟨#[32]⟩ ++ ⟨#[42]⟩ ++ ⟨#[32]⟩ : ByteArray).size = 3 := rfl
            have s2 : (tx ++ (⟨#[32]⟩ ++ ⟨#[42]⟩ ++ ⟨#[32]⟩ : ByteArray)).size = tx.size + 3 := by rw [ByteArray.size_append]; rfl
            have s3 : (tx ++ (⟨#[32]⟩ ++ ⟨#[42]⟩ ++ ⟨#[32]⟩ : ByteArray) ++ ⟨#[45]⟩).size = tx.size + 4 := by rw [ByteArray.size_append, s2]; rfl
            go_wp2
            go_roundw
            case rel => exact ⟨k + 2, T, P * -(d : Int), by omega, by go_num, by go_num, by go_num, Lib.hid ⟨by rw [← HX.out], by rw [HS2.out]; rfl⟩, HAL⟩
            case measure => (simp [intOf] <;> omega)
          | false =>
            have HX := Lib.hid (show tx ++ (⟨#[32]⟩ ++ ⟨#[42]⟩ ++ ⟨#[32]⟩) ++ bs (dgt d) = bs (D.tx (k + 2)) by
              rw [HT2.out, HTX.out, show (⟨#[32]⟩ ++ ⟨#[42]⟩ ++ ⟨#[32]⟩ : ByteArray) = bs (32 :: (opC 2 ++ [32])) from rfl, bs_cat, bs_cat]
              unfold aS
              simp)
            have s1 : (⟨#[32]⟩ ++ ⟨#[42]⟩ ++ ⟨#[32]⟩ : ByteArray).size = 3 := rfl
            have s2 : (tx ++ (⟨#[32]⟩ ++ ⟨#[42]⟩ ++ ⟨#[32]⟩ : ByteArray)).size = tx.size + 3 := by rw [ByteArray.size_append]; rfl
            have s3 : (tx ++ (⟨#[32]⟩ ++ ⟨#[42]⟩ ++ ⟨#[32]⟩ : ByteArray) ++ ⟨#[45]⟩).size = tx.size + 4 := by rw [ByteArray.size_append, s2]; rfl
            go_wp2
            go_roundw
            case rel => exact ⟨k + 2, T, P * (d : Int), by omega, by go_num, by go_num, by go_num, Lib.hid ⟨by rw [← HX.out], by rw [HS2.out]; rfl⟩, HAL⟩
            case measure => (simp [intOf] <;> omega)
    · obtain rfl : j = 6 := by omega
      obtain ⟨z, hz, hg, hv⟩ := ar_parse (n := D.n 0) (d := D.d 0) (l := D.its 5) (Nat.mod_lt _ (by omega)) (D.ok 5) (by simp [Dat.its])
      have hv2 : valT z = T + P := by
        rw [hv, evI_fold]
        have h : (D.its 5).foldl stepI (0, sv (D.n 0) (D.d 0)) = (T, P) := hst
        rw [h]
      have hbz : bT z ≤ 4611686018427387904 := Nat.le_trans hg.b (by simp [Dat.its])
      have HP := Lib.hid (fun w' => Term_walk (bs (D.tx 6)) _ _ _ (by rw [bs_data]; exact hz) (by omega) w')
      have HVA := Lib.hid (value_any z hg.ar hbz)
      obtain ⟨tx, htx⟩ : ∃ tx, tx = bs (D.tx 6) := ⟨_, rfl⟩
      rw [← htx] at HP hsz ⊢
      have HV2 := Lib.hid hv2
      have hwp : IntKind.i64.wrap (T + P) = T + P := IntWalk.i64_in _ (by omega)
      clear htx hz hg hv hv2 hbz hrel hst
      go_wp2_with fail
      refine (HP.out _).mono ?_
      rintro e w3 ⟨⟨u, v, rfl, hV⟩, hb3⟩
      have HB3 := Lib.hid (HBr.out.trans (hb3.mono HBr.out.size))
      have HPl := Lib.hid (plainTerm_any z (.iface u v) _ w3 (fun b h => h) hV.1 hV.2.2)
      clear hV hb3
      go_wp2_with fail
      refine HPl.out.mono ?_
      rintro e w4 ⟨A1, n1, c1, A2, n2, c2, rfl, hT4, hb4⟩
      have HB4 := Lib.hid (HB3.out.trans (hb4.mono HB3.out.size))
      have hVV := HVA.out _ _ w4 (fun b h => h.2) hT4
      rw [HV2.out] at hVV
      unfold hdC at hVV
      have HVV := Lib.hid hVV
      clear hT4 hb4 hVV
      go_wp2_with fail
      refine HVV.out.mono ?_
      rintro e w5 ⟨rfl, hb5⟩
      have HB5 := Lib.hid (HBW.out.trans ((HB4.out.trans (hb5.mono HB4.out.size)).mono HBW.out.size))
      clear hb5
      go_wp2
      go_ret
      exact ⟨rfl, HB5.out⟩

section
variable {H : Type} {enc : TypeId × Value → H} {P : Program} {w : World} {base : Nat} {spare : Nat → Bool} {held : Bool}
theorem okWide_array {n : Nat} {e t : TypeId} {r : Reach} {v : Value} (ht : P.underlying t = some (.array n e)) (h : Value.okWide P w r base t v) : ∃ cs, v = .agg cs ∧ cs.size = P.cellsOf t := by
  simp only [Value.okWide, ht] at h
  obtain ⟨cs, h1, h2, _⟩ := h
  exact ⟨cs, h1, h2⟩
end
def u8W (x : Nat) : Value := .int .u8 (x : Int)
theorem list_ex {α : Type} : ∀ (cs : List Value) (f : α → Value) (Q : α → Prop), (∀ (i : Nat) (v : Value), cs[i]? = some v → ∃ x, v = f x ∧ Q x) → ∃ l : List α, cs = l.map f ∧ ∀ x ∈ l, Q x
  | [], f, Q, h => ⟨[], rfl, fun x hx => by cases hx⟩
  | c :: cs, f, Q, h => by
    obtain ⟨l, h1, h2⟩ := list_ex cs f Q (fun i v hi => h (i + 1) v (by simpa using hi))
    obtain ⟨x, rfl, hx⟩ := h 0 c rfl
    exact ⟨x :: l, by rw [h1]; rfl, fun y hy => by rcases List.mem_cons.1 hy with rfl | hy; exact hx; exact h2 y hy⟩
theorem open_arr {H : Type} {enc : TypeId × Value → H} {W : World} {base : Nat} {spare : Nat → Bool} {held : Bool} {fuel n : Nat} {t : TypeId} {cs : List Value} {x : DataW H × List MemPlace} (ht : Try.prog.underlying t = some (.array n 5)) (h : DataW.trod enc Try.prog W base spare held fuel t cs = some x) (hn : Try.prog.cellsOf t = n := by kernel_rfl) :
    ∃ l : List Nat, l.length = n ∧ (∀ x ∈ l, x ≤ 255) ∧ cs = l.map u8W := by
  obtain ⟨xs, m, _, _, hl, hxl, hat⟩ := DataW.trod_array ht h
  rw [hn] at hl
  rw [show Try.prog.cellsOf 5 = 1 by kernel_rfl] at hat
  obtain ⟨l, h1, h2⟩ := list_ex cs u8W (fun x => x ≤ 255) (fun i v hi => by
    have hlt : i < cs.length := (List.getElem?_eq_some_iff.1 hi).1
    have h3 := hat i (by omega)
    rw [Nat.mul_one, List.drop_eq_getElem_cons hlt, List.take_succ_cons, List.take_zero, List.getElem?_eq_getElem (by omega)] at h3
    obtain ⟨z, hz, _, hw⟩ := DataW.trod_int Try.underlying5 h3
    have hz2 := bounds_u8 hw
    obtain ⟨z, rfl⟩ := Int.eq_ofNat_of_zero_le hz2.1
    refine ⟨z, ?_, by omega⟩
    rw [List.getElem?_eq_getElem hlt] at hi
    have hi := Option.some.inj hi
    rw [← hi]
    exact (List.cons.inj hz).1)
  exact ⟨l, by rw [← hl, h1, List.length_map], h2, h1⟩
theorem walk (cs0 : Array Value) (l0 : List Nat) (cs1 : Array Value) (l1 : List Nat) (c : Int) (hc : (Lit.int .u8 c).wf = true) (w : World) (h0 : l0.length = 6) (hx0 : ∀ x ∈ l0, x ≤ 255) (he0 : cs0.toList = l0.map u8W) (h1 : l1.length = 5) (hx1 : ∀ x ∈ l1, x ≤ 255) (he1 : cs1.toList = l1.map u8W) :
    Calls Try.prog 7 #[.agg cs0, .agg cs1, .int .u8 c] w fun e w' => e = .returned (.bool true) ∧ Below w.heap.size w w' := by
  have b2 := bounds_u8 hc
  obtain ⟨c, rfl⟩ := Int.eq_ofNat_of_zero_le b2.1
  match l0, h0, hx0, he0, l1, h1, hx1, he1 with
  | [a0, a1, a2, a3, a4, a5], _, hx0, he0, [b0, b1, b2, b3, b4], _, hx1, he1 =>
    obtain rfl : cs0 = #[.int .u8 (a0 : Int), .int .u8 (a1 : Int), .int .u8 (a2 : Int), .int .u8 (a3 : Int), .int .u8 (a4 : Int), .int .u8 (a5 : Int)] := by apply Array.toList_inj.1; rw [he0]; rfl
    obtain rfl : cs1 = #[.int .u8 (b0 : Int), .int .u8 (b1 : Int), .int .u8 (b2 : Int), .int .u8 (b3 : Int), .int .u8 (b4 : Int)] := by apply Array.toList_inj.1; rw [he1]; rfl
    refine core a0 a1 a2 a3 a4 a5 b0 b1 b2 b3 b4 c ⟨fun i => [a0, a1, a2, a3, a4, a5].getD i 0, fun i => [b0, b1, b2, b3, b4].getD i 0, c⟩ rfl rfl rfl rfl rfl rfl rfl rfl rfl rfl rfl rfl (fun i => ?_) (fun i => ?_) (by omega) w
    · show [a0, a1, a2, a3, a4, a5].getD i 0 ≤ 255
      rw [List.getD_eq_getElem?_getD]
      cases h : [a0, a1, a2, a3, a4, a5][i]? with
      | none => simp
      | some x => exact hx0 x (List.mem_of_getElem? h)
    · show [b0, b1, b2, b3, b4].getD i 0 ≤ 255
      rw [List.getD_eq_getElem?_getD]
      cases h : [b0, b1, b2, b3, b4][i]? with
      | none => simp
      | some x => exact hx1 x (List.mem_of_getElem? h)

theorem laidOut : laidOutB Try.prog = true := by kernel_rfl

theorem own : ownKnob Try.prog.godebug = none := by kernel_rfl

set_option maxRecDepth 100000 in
theorem lifted (os : Os) (started : os.Started) (H : Type) (enc : TypeId × Value → H) :
    ReturnsInHanded {} Try.checked os 7 .any (Rows.parserArithmeticSpec.pre6 enc Try.prog Try.f7 Rows.parserArithmeticRow.domain false) (Rows.parserArithmeticSpec.post enc Try.prog Try.f7 false true false false) := by
  refine returnsInHanded_of_change (C := Try.checked) own started (by kernel_rfl) Try.func7
    (ChangeSpec.witness6 (enc := enc) (C := Try.checked) false ⟨#[], #[.agg #[.int .u8 0, .int .u8 0, .int .u8 0, .int .u8 0, .int .u8 0, .int .u8 0], .agg #[.int .u8 0, .int .u8 0, .int .u8 0, .int .u8 0, .int .u8 0], .int .u8 0], []⟩ 8 (by kernel_rfl) (by kernel_rfl) (by kernel_rfl) (by kernel_rfl)) ?_
  intro W base args ds gs before hval0 hW hcnd _
  have hval : ∀ (j : Nat) t v, Try.f7.params[j]? = some t → args[j]? = some v → Value.okWide Try.prog W .any base t v := hval0
  have hW' := hW
  obtain ⟨p, q, hA0, hV, rfl, hfz, hnd⟩ := hW
  have hA : DataW.TrodAll enc Try.prog W 0 (fun _ => true) true Try.f7.params.toList args.toList ds p := hA0
  rw [Try.params7] at hA hval
  obtain ⟨v0, vs0, d0, ds0, p0, q0, hargs, rfl, rfl, h0, r0⟩ := trodAll_cons hA
  obtain ⟨v1, vs1, d1, ds1, p1, q1, rfl, rfl, rfl, h1, r1⟩ := trodAll_cons r0
  obtain ⟨v2, vs2, d2, ds2, p2, q2, rfl, rfl, rfl, h2, r2⟩ := trodAll_cons r1
  obtain ⟨rfl, rfl, rfl⟩ := trodAll_nil r2
  obtain rfl : args = #[v0, v1, v2] := by cases args; simp_all
  obtain ⟨rfl, rfl⟩ := trodVars_none hV
  obtain ⟨cs0, rfl, hsz0⟩ := okWide_array Try.underlying52 (hval 0 52 v0 rfl rfl)
  have h0k := h0
  obtain ⟨fuel0, hf0⟩ := h0
  obtain ⟨l0, hl0, hx0, he0⟩ := open_arr Try.underlying52 hf0
  obtain ⟨cs1, rfl, hsz1⟩ := okWide_array Try.underlying53 (hval 1 53 v1 rfl rfl)
  have h1k := h1
  obtain ⟨fuel1, hf1⟩ := h1
  obtain ⟨l1, hl1, hx1, he1⟩ := open_arr Try.underlying53 hf1
  obtain ⟨a2, rfl, rfl, rfl, w2⟩ := open_int Try.underlying5 (hval 2 5 v2 rfl rfl) h2
  clear hA0 hval0
  simp only [List.append_nil] at hW'
  have hlt0 : ∀ x ∈ p0, x.block < W.heap.size := fun x hx => by simpa using hW'.lt x (by simp [hx])
  have hlt1 : ∀ x ∈ p1, x.block < W.heap.size := fun x hx => by simpa using hW'.lt x (by simp [hx])
  refine (walk cs0 l0 cs1 l1 a2 w2 W hl0 hx0 he0 hl1 hx1 he1).mono fun e W' ⟨he, bel⟩ => ?_
  subst he
  exact ⟨_, rfl, _, _, _, [], _, [], hW', trodAll_mk1 (shut_bool Try.underlying4 _), (trodAll_cons_mk (Below.trod laidOut (by kernel_rfl) (of_decide_eq_true (by kernel_rfl)) h0k bel hlt0) (trodAll_cons_mk (Below.trod laidOut (by kernel_rfl) (of_decide_eq_true (by kernel_rfl)) h1k bel hlt1) (trodAll_cons_mk (shut_int Try.underlying5 w2) trodAll_mk0))), rfl, bel.frame _, fun h => by cases h⟩

theorem over : Rows.parserArithmeticRow.holds Try.pinned (OpenSpec.ofChange Rows.parserArithmeticSpec) :=
  OpenClaim.holds_of_wide 7 Try.f7 rfl rfl rfl rfl rfl rfl rfl ⟨rfl, rfl, rfl, rfl, rfl⟩ rfl rfl rfl rfl rfl (by kernel_rfl) Try.func7 (by kernel_rfl)
    (of_decide_eq_true (by kernel_rfl)) (by unfold Func.isWrapper; first | (rw [if_pos (by decide +kernel)]; kernel_rfl) | (rw [if_neg (by decide +kernel)]; exact ⟨rfl, rfl⟩))
    (fun os started H enc _ => lifted os started H enc)

/-- THE STATEMENT -/
theorem proved : Rows.ParserArithmeticSaid := over
end Go.Proofs.Ytkjbfomokdjbnaa.parserArithmetic
