/-
  ParserLong: for every two numbers the law returns true: what is too long is refused at the token that is one too many. No condition.
-/
import Derived.Test.YtkjbfomokdjbnaaPaE
import Derived.Test.YtkjbfomokdjbnaaRows
import Derived.ProofKit
import Derived.OpenShut
import Derived.ShutString
import Derived.Laws.IdiomStrings
namespace Go.Proofs.Ytkjbfomokdjbnaa.parserLong
open Go.ChangeShapes Go.WideShapes Go.ChangeAt Go.RowKit Go.Proofs.Ytkjbfomokdjbnaa Go.Proofs.Ytkjbfomokdjbnaa.Lx Go.Proofs.Ytkjbfomokdjbnaa.Pa
open Go.ChangeMaps (open_string shut_string)
set_option linter.unusedVariables false
set_option linter.unusedSimpArgs false

theorem bs_cat (a b : Bytes) : bs a ++ bs b = bs (a ++ b) := WideShapes.bytes_inj (by simp [bs])
theorem rep_succ (j : Nat) (c : UInt8) : bs (List.replicate j c) ++ bs [c] = bs (List.replicate (j + 1) c) := by rw [bs_cat, List.replicate_succ']
theorem lit_bs (l : List UInt8) : (⟨l.toArray⟩ : ByteArray) = bs l := rfl
theorem ors_size (j : Nat) : (bs (ors j)).size = 5 + 9 * j := by
  rw [bs_size]
  induction j with
  | zero => rfl
  | succ j ih => show (ors j ++ orz).length = _; rw [List.length_append, ih]; simp [orz]; omega
theorem says_none (h k : Nat) (X : ByteArray) (hh : h < 4) (hk : k < 80) (hX : X = bs (longT h k)) (hw : wantL h k = none) (hs : X.size ≤ 140737488351232) (w : World) : ∃ x, Calls Try.prog 9 #[.string X] w (ParsePost (some x) 0 0 w) := by
  subst hX
  rcases long_parse h k hh hk with ⟨-, x, hp⟩ | ⟨p, hp, -⟩
  · exact ⟨x, Parse_walk _ _ _ _ hp hs w⟩
  · rw [hw] at hp; cases hp
theorem says_some (h k p : Nat) (X : ByteArray) (hh : h < 4) (hk : k < 80) (hX : X = bs (longT h k)) (hw : wantL h k = some p) (hs : X.size ≤ 140737488351232) (w : World) : Calls Try.prog 9 #[.string X] w (ParsePost none p 8 w) := by
  subst hX
  rcases long_parse h k hh hk with ⟨hp, -⟩ | ⟨q, hp, hr⟩
  · rw [hw] at hp; cases hp
  · rw [hw] at hp; injection hp with hp; subst hp; exact Parse_walk _ _ _ _ hr hs w

set_option maxHeartbeats 4000000 in
set_option maxRecDepth 100000 in
theorem kind0_big (q h k : Nat) (hq5 : q ≤ 255) (hh5 : h ≤ 255) (hq : q % 80 = k) (hh : h % 4 = 0) (hk6 : 60 < k) (w : World) :
    Calls Try.prog 6 #[.int .u8 (q : Int), .int .u8 (h : Int)] w fun e w' => e = .returned (.bool true) ∧ Below w.heap.size w w' := by
  have hqi : (q : Int) % 80 = (k : Int) := by omega
  have hhi : (h : Int) % 4 = 0 := by omega
  have hk : k < 80 := by omega
  clear hq hh
  go_enter Try.func6, Try.ntmps6
  go_wp2_with fail
  refine (awake_any _).mono ?_
  rintro e w1 ⟨rfl, hb1⟩
  have HB1 := Lib.hid hb1
  clear hb1
  go_wp2_with fail
  go_loopw [8, 9, 38] (fun a b i wr => ∃ j : Nat, j ≤ k ∧ a = .string (bs (List.replicate j 40)) ∧ b = .string (bs (List.replicate j 41)) ∧ i = .int .i64 j ∧ Hid (Below w.heap.size w wr)) (fun _ _ i _ => k - (intOf i).toNat)
  case atStart => exact ⟨0, Nat.zero_le _, rfl, rfl, rfl, HB1⟩
  case round =>
    obtain ⟨j, hj, rfl, rfl, rfl, HBr⟩ := hrel
    by_cases hlt : j < k
    · have r1 := rep_succ j 40
      have r2 := rep_succ j 41
      have s1 : (bs (List.replicate j 40)).size = j := by simp [bs_size]
      have s2 : (bs (List.replicate j 41)).size = j := by simp [bs_size]
      obtain ⟨x1, h1⟩ : ∃ x1, x1 = bs (List.replicate j 40) := ⟨_, rfl⟩
      obtain ⟨x2, h2⟩ : ∃ x2, x2 = bs (List.replicate j 41) := ⟨_, rfl⟩
      rw [← h1] at r1 s1 ⊢
      rw [← h2] at r2 s2 ⊢
      have HR1 := Lib.hid r1
      have HR2 := Lib.hid r2
      clear h1 h2 r1 r2
      go_wp2
      go_roundw
      case rel => exact ⟨j + 1, by omega, by rw [← HR1.out]; rfl, by rw [← HR2.out]; rfl, by go_num, HBr⟩
      case measure => simp [intOf]; omega
    · have hjk : j = k := by omega
      have s1 : (bs (List.replicate j 40)).size = j := by simp [bs_size]
      have s2 : (bs (List.replicate j 41)).size = j := by simp [bs_size]
      obtain ⟨x1, h1⟩ : ∃ x1, x1 = bs (List.replicate j 40) := ⟨_, rfl⟩
      obtain ⟨x2, h2⟩ : ∃ x2, x2 = bs (List.replicate j 41) := ⟨_, rfl⟩
      rw [← h1] at s1 ⊢
      rw [← h2] at s2 ⊢
      have s3 : (x1 ++ ⟨#[48, 32, 61, 32, 48]⟩).size = j + 5 := by rw [ByteArray.size_append, s1]; rfl
      have hX : x1 ++ ⟨#[48, 32, 61, 32, 48]⟩ ++ x2 = bs (longT 0 k) := by
        rw [h1, h2, hjk, show (⟨#[48, 32, 61, 32, 48]⟩ : ByteArray) = bs zeq from rfl, bs_cat, bs_cat]; rfl
      have hXs : (x1 ++ ⟨#[48, 32, 61, 32, 48]⟩ ++ x2).size ≤ 140737488351232 := by rw [ByteArray.size_append, s3, s2]; omega
      clear h1 h2
      have HPs := Lib.hid (says_some 0 k 60 (x1 ++ ⟨#[48, 32, 61, 32, 48]⟩ ++ x2) (by omega) (by omega) hX (by simp [wantL]; omega) hXs wr)
      clear hX hXs
      go_wp2_with fail
      refine HPs.out.mono ?_
      rintro e w9 ⟨rfl, hb9⟩
      have HB9 := Lib.hid (HBr.out.trans (hb9.mono HBr.out.size))
      clear hb9
      go_wp2
      go_ret
      exact ⟨rfl, HB9.out⟩
set_option maxHeartbeats 4000000 in
set_option maxRecDepth 100000 in
theorem kind0_small (q h k : Nat) (hq5 : q ≤ 255) (hh5 : h ≤ 255) (hq : q % 80 = k) (hh : h % 4 = 0) (hk6 : k ≤ 60) (w : World) :
    Calls Try.prog 6 #[.int .u8 (q : Int), .int .u8 (h : Int)] w fun e w' => e = .returned (.bool true) ∧ Below w.heap.size w w' := by
  have hqi : (q : Int) % 80 = (k : Int) := by omega
  have hhi : (h : Int) % 4 = 0 := by omega
  have hk : k < 80 := by omega
  clear hq hh
  go_enter Try.func6, Try.ntmps6
  go_wp2_with fail
  refine (awake_any _).mono ?_
  rintro e w1 ⟨rfl, hb1⟩
  have HB1 := Lib.hid hb1
  clear hb1
  go_wp2_with fail
  go_loopw [8, 9, 38] (fun a b i wr => ∃ j : Nat, j ≤ k ∧ a = .string (bs (List.replicate j 40)) ∧ b = .string (bs (List.replicate j 41)) ∧ i = .int .i64 j ∧ Hid (Below w.heap.size w wr)) (fun _ _ i _ => k - (intOf i).toNat)
  case atStart => exact ⟨0, Nat.zero_le _, rfl, rfl, rfl, HB1⟩
  case round =>
    obtain ⟨j, hj, rfl, rfl, rfl, HBr⟩ := hrel
    by_cases hlt : j < k
    · have r1 := rep_succ j 40
      have r2 := rep_succ j 41
      have s1 : (bs (List.replicate j 40)).size = j := by simp [bs_size]
      have s2 : (bs (List.replicate j 41)).size = j := by simp [bs_size]
      obtain ⟨x1, h1⟩ : ∃ x1, x1 = bs (List.replicate j 40) := ⟨_, rfl⟩
      obtain ⟨x2, h2⟩ : ∃ x2, x2 = bs (List.replicate j 41) := ⟨_, rfl⟩
      rw [← h1] at r1 s1 ⊢
      rw [← h2] at r2 s2 ⊢
      have HR1 := Lib.hid r1
      have HR2 := Lib.hid r2
      clear h1 h2 r1 r2
      go_wp2
      go_roundw
      case rel => exact ⟨j + 1, by omega, by rw [← HR1.out]; rfl, by rw [← HR2.out]; rfl, by go_num, HBr⟩
      case measure => simp [intOf]; omega
    · have hjk : j = k := by omega
      have s1 : (bs (List.replicate j 40)).size = j := by simp [bs_size]
      have s2 : (bs (List.replicate j 41)).size = j := by simp [bs_size]
      obtain ⟨x1, h1⟩ : ∃ x1, x1 = bs (List.replicate j 40) := ⟨_, rfl⟩
      obtain ⟨x2, h2⟩ : ∃ x2, x2 = bs (List.replicate j 41) := ⟨_, rfl⟩
      rw [← h1] at s1 ⊢
      rw [← h2] at s2 ⊢
      have s3 : (x1 ++ ⟨#[48, 32, 61, 32, 48]⟩).size = j + 5 := by rw [ByteArray.size_append, s1]; rfl
      have hX : x1 ++ ⟨#[48, 32, 61, 32, 48]⟩ ++ x2 = bs (longT 0 k) := by
        rw [h1, h2, hjk, show (⟨#[48, 32, 61, 32, 48]⟩ : ByteArray) = bs zeq from rfl, bs_cat, bs_cat]; rfl
      have hXs : (x1 ++ ⟨#[48, 32, 61, 32, 48]⟩ ++ x2).size ≤ 140737488351232 := by rw [ByteArray.size_append, s3, s2]; omega
      clear h1 h2
      obtain ⟨x, hPs⟩ := says_none 0 k (x1 ++ ⟨#[48, 32, 61, 32, 48]⟩ ++ x2) (by omega) (by omega) hX (by simp [wantL]; omega) hXs wr
      have HPs := Lib.hid hPs
      clear hX hXs hPs
      go_wp2_with fail
      refine HPs.out.mono ?_
      rintro e w9 ⟨⟨u, z, rfl, -⟩, hb9⟩
      have HB9 := Lib.hid (HBr.out.trans (hb9.mono HBr.out.size))
      clear hb9
      go_wp2
      go_ret
      exact ⟨rfl, HB9.out⟩
set_option maxHeartbeats 4000000 in
set_option maxRecDepth 100000 in
theorem kind1_big (q h k : Nat) (hq5 : q ≤ 255) (hh5 : h ≤ 255) (hq : q % 80 = k) (hh : h % 4 = 1) (hk6 : 15 < k) (w : World) :
    Calls Try.prog 6 #[.int .u8 (q : Int), .int .u8 (h : Int)] w fun e w' => e = .returned (.bool true) ∧ Below w.heap.size w w' := by
  have hqi : (q : Int) % 80 = (k : Int) := by omega
  have hhi : (h : Int) % 4 = 1 := by omega
  have hk : k < 80 := by omega
  clear hq hh
  go_enter Try.func6, Try.ntmps6
  go_wp2_with fail
  refine (awake_any _).mono ?_
  rintro e w1 ⟨rfl, hb1⟩
  have HB1 := Lib.hid hb1
  clear hb1
  go_wp2_with fail
  go_loopw [6, 55] (fun a i wr => ∃ j : Nat, j ≤ k ∧ a = .string (bs (ors j)) ∧ i = .int .i64 j ∧ Hid (Below w.heap.size w wr)) (fun _ i _ => k - (intOf i).toNat)
  case atStart => exact ⟨0, Nat.zero_le _, rfl, rfl, HB1⟩
  case round =>
    obtain ⟨j, hj, rfl, rfl, HBr⟩ := hrel
    have s1 : (bs (ors j)).size = 5 + 9 * j := ors_size j
    by_cases hlt : j < k
    · have r1 : bs (ors j) ++ bs orz = bs (ors (j + 1)) := bs_cat _ _
      obtain ⟨x1, h1⟩ : ∃ x1, x1 = bs (ors j) := ⟨_, rfl⟩
      rw [← h1] at r1 s1 ⊢
      have HR1 := Lib.hid r1
      clear h1 r1
      go_wp2
      go_roundw
      case rel => exact ⟨j + 1, by omega, by rw [← HR1.out]; rfl, by go_num, HBr⟩
      case measure => simp [intOf]; omega
    · have hjk : j = k := by omega
      obtain ⟨x1, h1⟩ : ∃ x1, x1 = bs (ors j) := ⟨_, rfl⟩
      rw [← h1] at s1 ⊢
      have hX : x1 = bs (longT 1 k) := by rw [h1, hjk]; rfl
      have hXs : x1.size ≤ 140737488351232 := by rw [s1]; omega
      clear h1
      have HPs := Lib.hid (says_some 1 k 146 x1 (by omega) (by omega) hX (by simp [wantL]; omega) hXs wr)
      clear hX hXs
      go_wp2_with fail
      refine HPs.out.mono ?_
      rintro e w9 ⟨rfl, hb9⟩
      have HB9 := Lib.hid (HBr.out.trans (hb9.mono HBr.out.size))
      clear hb9
      go_wp2
      go_ret
      exact ⟨rfl, HB9.out⟩
set_option maxHeartbeats 4000000 in
set_option maxRecDepth 100000 in
theorem kind1_small (q h k : Nat) (hq5 : q ≤ 255) (hh5 : h ≤ 255) (hq : q % 80 = k) (hh : h % 4 = 1) (hk6 : k ≤ 15) (w : World) :
    Calls Try.prog 6 #[.int .u8 (q : Int), .int .u8 (h : Int)] w fun e w' => e = .returned (.bool true) ∧ Below w.heap.size w w' := by
  have hqi : (q : Int) % 80 = (k : Int) := by omega
  have hhi : (h : Int) % 4 = 1 := by omega
  have hk : k < 80 := by omega
  clear hq hh
  go_enter Try.func6, Try.ntmps6
  go_wp2_with fail
  refine (awake_any _).mono ?_
  rintro e w1 ⟨rfl, hb1⟩
  have HB1 := Lib.hid hb1
  clear hb1
  go_wp2_with fail
  go_loopw [6, 55] (fun a i wr => ∃ j : Nat, j ≤ k ∧ a = .string (bs (ors j)) ∧ i = .int .i64 j ∧ Hid (Below w.heap.size w wr)) (fun _ i _ => k - (intOf i).toNat)
  case atStart => exact ⟨0, Nat.zero_le _, rfl, rfl, HB1⟩
  case round =>
    obtain ⟨j, hj, rfl, rfl, HBr⟩ := hrel
    have s1 : (bs (ors j)).size = 5 + 9 * j := ors_size j
    by_cases hlt : j < k
    · have r1 : bs (ors j) ++ bs orz = bs (ors (j + 1)) := bs_cat _ _
      obtain ⟨x1, h1⟩ : ∃ x1, x1 = bs (ors j) := ⟨_, rfl⟩
      rw [← h1] at r1 s1 ⊢
      have HR1 := Lib.hid r1
      clear h1 r1
      go_wp2
      go_roundw
      case rel => exact ⟨j + 1, by omega, by rw [← HR1.out]; rfl, by go_num, HBr⟩
      case measure => simp [intOf]; omega
    · have hjk : j = k := by omega
      obtain ⟨x1, h1⟩ : ∃ x1, x1 = bs (ors j) := ⟨_, rfl⟩
      rw [← h1] at s1 ⊢
      have hX : x1 = bs (longT 1 k) := by rw [h1, hjk]; rfl
      have hXs : x1.size ≤ 140737488351232 := by rw [s1]; omega
      clear h1
      obtain ⟨x, hPs⟩ := says_none 1 k x1 (by omega) (by omega) hX (by simp [wantL]; omega) hXs wr
      have HPs := Lib.hid hPs
      clear hX hXs hPs
      go_wp2_with fail
      refine HPs.out.mono ?_
      rintro e w9 ⟨⟨u, z, rfl, -⟩, hb9⟩
      have HB9 := Lib.hid (HBr.out.trans (hb9.mono HBr.out.size))
      clear hb9
      go_wp2
      go_ret
      exact ⟨rfl, HB9.out⟩
theorem rune0 (w : World) : (convert 21 9 (.int .i32 48)).run Try.prog w = .ok (.string ⟨#[48]⟩) w := by kernel_rfl
set_option maxHeartbeats 4000000 in
set_option maxRecDepth 100000 in
theorem kind2_0 (q h k : Nat) (hq5 : q ≤ 255) (hh5 : h ≤ 255) (hq : q % 80 = k) (hh : h % 4 = 2) (hc : k % 10 = 0) (w : World) :
    Calls Try.prog 6 #[.int .u8 (q : Int), .int .u8 (h : Int)] w fun e w' => e = .returned (.bool true) ∧ Below w.heap.size w w' := by
  have hqi : (q : Int) % 80 = (k : Int) := by omega
  have hhi : (h : Int) % 4 = 2 := by omega
  have hk : k < 80 := by omega
  clear hq hh
  have hci : (k : Int) % 10 = 0 := by omega
  have hrn := rune0
  have hX : (⟨#[49, 94]⟩ ++ ⟨#[48]⟩ ++ ⟨#[32, 61, 32, 120]⟩ : ByteArray) = bs (longT 2 k) := by
    have e : longT 2 k = longT 2 0 := by unfold longT; simp [hc]
    rw [e]; rfl
  have hXs : (⟨#[49, 94]⟩ ++ ⟨#[48]⟩ ++ ⟨#[32, 61, 32, 120]⟩ : ByteArray).size ≤ 140737488351232 := by decide
  go_enter Try.func6, Try.ntmps6
  go_wp2_with fail
  refine (awake_any _).mono ?_
  rintro e w1 ⟨rfl, hb1⟩
  have HBr := Lib.hid hb1
  clear hb1
  go_wp2_with fail
  have hXs2 : (bs (longT 2 k)).size ≤ 140737488351232 := by rw [← hX]; exact hXs
  clear hX hXs
  have hX : bs (longT 2 k) = bs (longT 2 k) := rfl
  have hXs := hXs2
  clear hXs2
  obtain ⟨x, hPs⟩ := says_none 2 k (bs (longT 2 k)) (by omega) (by omega) hX (by simp [wantL, hc]) hXs w1
  have HPs := Lib.hid hPs
  clear hX hXs hPs
  go_wp2_with fail
  refine HPs.out.mono ?_
  rintro e w9 ⟨⟨u, z, rfl, -⟩, hb9⟩
  have HB9 := Lib.hid (HBr.out.trans (hb9.mono HBr.out.size))
  clear hb9
  go_wp2
  go_ret
  exact ⟨rfl, HB9.out⟩
theorem rune1 (w : World) : (convert 21 9 (.int .i32 49)).run Try.prog w = .ok (.string ⟨#[49]⟩) w := by kernel_rfl
set_option maxHeartbeats 4000000 in
set_option maxRecDepth 100000 in
theorem kind2_1 (q h k : Nat) (hq5 : q ≤ 255) (hh5 : h ≤ 255) (hq : q % 80 = k) (hh : h % 4 = 2) (hc : k % 10 = 1) (w : World) :
    Calls Try.prog 6 #[.int .u8 (q : Int), .int .u8 (h : Int)] w fun e w' => e = .returned (.bool true) ∧ Below w.heap.size w w' := by
  have hqi : (q : Int) % 80 = (k : Int) := by omega
  have hhi : (h : Int) % 4 = 2 := by omega
  have hk : k < 80 := by omega
  clear hq hh
  have hci : (k : Int) % 10 = 1 := by omega
  have hrn := rune1
  have hX : (⟨#[49, 94]⟩ ++ ⟨#[49]⟩ ++ ⟨#[32, 61, 32, 120]⟩ : ByteArray) = bs (longT 2 k) := by
    have e : longT 2 k = longT 2 1 := by unfold longT; simp [hc]
    rw [e]; rfl
  have hXs : (⟨#[49, 94]⟩ ++ ⟨#[49]⟩ ++ ⟨#[32, 61, 32, 120]⟩ : ByteArray).size ≤ 140737488351232 := by decide
  go_enter Try.func6, Try.ntmps6
  go_wp2_with fail
  refine (awake_any _).mono ?_
  rintro e w1 ⟨rfl, hb1⟩
  have HBr := Lib.hid hb1
  clear hb1
  go_wp2_with fail
  have hXs2 : (bs (longT 2 k)).size ≤ 140737488351232 := by rw [← hX]; exact hXs
  clear hX hXs
  have hX : bs (longT 2 k) = bs (longT 2 k) := rfl
  have hXs := hXs2
  clear hXs2
  obtain ⟨x, hPs⟩ := says_none 2 k (bs (longT 2 k)) (by omega) (by omega) hX (by simp [wantL, hc]) hXs w1
  have HPs := Lib.hid hPs
  clear hX hXs hPs
  go_wp2_with fail
  refine HPs.out.mono ?_
  rintro e w9 ⟨⟨u, z, rfl, -⟩, hb9⟩
  have HB9 := Lib.hid (HBr.out.trans (hb9.mono HBr.out.size))
  clear hb9
  go_wp2
  go_ret
  exact ⟨rfl, HB9.out⟩
theorem rune2 (w : World) : (convert 21 9 (.int .i32 50)).run Try.prog w = .ok (.string ⟨#[50]⟩) w := by kernel_rfl
set_option maxHeartbeats 4000000 in
set_option maxRecDepth 100000 in
theorem kind2_2 (q h k : Nat) (hq5 : q ≤ 255) (hh5 : h ≤ 255) (hq : q % 80 = k) (hh : h % 4 = 2) (hc : k % 10 = 2) (w : World) :
    Calls Try.prog 6 #[.int .u8 (q : Int), .int .u8 (h : Int)] w fun e w' => e = .returned (.bool true) ∧ Below w.heap.size w w' := by
  have hqi : (q : Int) % 80 = (k : Int) := by omega
  have hhi : (h : Int) % 4 = 2 := by omega
  have hk : k < 80 := by omega
  clear hq hh
  have hci : (k : Int) % 10 = 2 := by omega
  have hrn := rune2
  have hX : (⟨#[49, 94]⟩ ++ ⟨#[50]⟩ ++ ⟨#[32, 61, 32, 120]⟩ : ByteArray) = bs (longT 2 k) := by
    have e : longT 2 k = longT 2 2 := by unfold longT; simp [hc]
    rw [e]; rfl
  have hXs : (⟨#[49, 94]⟩ ++ ⟨#[50]⟩ ++ ⟨#[32, 61, 32, 120]⟩ : ByteArray).size ≤ 140737488351232 := by decide
  go_enter Try.func6, Try.ntmps6
  go_wp2_with fail
  refine (awake_any _).mono ?_
  rintro e w1 ⟨rfl, hb1⟩
  have HBr := Lib.hid hb1
  clear hb1
  go_wp2_with fail
  have hXs2 : (bs (longT 2 k)).size ≤ 140737488351232 := by rw [← hX]; exact hXs
  clear hX hXs
  have hX : bs (longT 2 k) = bs (longT 2 k) := rfl
  have hXs := hXs2
  clear hXs2
  obtain ⟨x, hPs⟩ := says_none 2 k (bs (longT 2 k)) (by omega) (by omega) hX (by simp [wantL, hc]) hXs w1
  have HPs := Lib.hid hPs
  clear hX hXs hPs
  go_wp2_with fail
  refine HPs.out.mono ?_
  rintro e w9 ⟨⟨u, z, rfl, -⟩, hb9⟩
  have HB9 := Lib.hid (HBr.out.trans (hb9.mono HBr.out.size))
  clear hb9
  go_wp2
  go_ret
  exact ⟨rfl, HB9.out⟩
theorem rune3 (w : World) : (convert 21 9 (.int .i32 51)).run Try.prog w = .ok (.string ⟨#[51]⟩) w := by kernel_rfl
set_option maxHeartbeats 4000000 in
set_option maxRecDepth 100000 in
theorem kind2_3 (q h k : Nat) (hq5 : q ≤ 255) (hh5 : h ≤ 255) (hq : q % 80 = k) (hh : h % 4 = 2) (hc : k % 10 = 3) (w : World) :
    Calls Try.prog 6 #[.int .u8 (q : Int), .int .u8 (h : Int)] w fun e w' => e = .returned (.bool true) ∧ Below w.heap.size w w' := by
  have hqi : (q : Int) % 80 = (k : Int) := by omega
  have hhi : (h : Int) % 4 = 2 := by omega
  have hk : k < 80 := by omega
  clear hq hh
  have hci : (k : Int) % 10 = 3 := by omega
  have hrn := rune3
  have hX : (⟨#[49, 94]⟩ ++ ⟨#[51]⟩ ++ ⟨#[32, 61, 32, 120]⟩ : ByteArray) = bs (longT 2 k) := by
    have e : longT 2 k = longT 2 3 := by unfold longT; simp [hc]
    rw [e]; rfl
  have hXs : (⟨#[49, 94]⟩ ++ ⟨#[51]⟩ ++ ⟨#[32, 61, 32, 120]⟩ : ByteArray).size ≤ 140737488351232 := by decide
  go_enter Try.func6, Try.ntmps6
  go_wp2_with fail
  refine (awake_any _).mono ?_
  rintro e w1 ⟨rfl, hb1⟩
  have HBr := Lib.hid hb1
  clear hb1
  go_wp2_with fail
  have hXs2 : (bs (longT 2 k)).size ≤ 140737488351232 := by rw [← hX]; exact hXs
  clear hX hXs
  have hX : bs (longT 2 k) = bs (longT 2 k) := rfl
  have hXs := hXs2
  clear hXs2
  obtain ⟨x, hPs⟩ := says_none 2 k (bs (longT 2 k)) (by omega) (by omega) hX (by simp [wantL, hc]) hXs w1
  have HPs := Lib.hid hPs
  clear hX hXs hPs
  go_wp2_with fail
  refine HPs.out.mono ?_
  rintro e w9 ⟨⟨u, z, rfl, -⟩, hb9⟩
  have HB9 := Lib.hid (HBr.out.trans (hb9.mono HBr.out.size))
  clear hb9
  go_wp2
  go_ret
  exact ⟨rfl, HB9.out⟩
theorem rune4 (w : World) : (convert 21 9 (.int .i32 52)).run Try.prog w = .ok (.string ⟨#[52]⟩) w := by kernel_rfl
set_option maxHeartbeats 4000000 in
set_option maxRecDepth 100000 in
theorem kind2_4 (q h k : Nat) (hq5 : q ≤ 255) (hh5 : h ≤ 255) (hq : q % 80 = k) (hh : h % 4 = 2) (hc : k % 10 = 4) (w : World) :
    Calls Try.prog 6 #[.int .u8 (q : Int), .int .u8 (h : Int)] w fun e w' => e = .returned (.bool true) ∧ Below w.heap.size w w' := by
  have hqi : (q : Int) % 80 = (k : Int) := by omega
  have hhi : (h : Int) % 4 = 2 := by omega
  have hk : k < 80 := by omega
  clear hq hh
  have hci : (k : Int) % 10 = 4 := by omega
  have hrn := rune4
  have hX : (⟨#[49, 94]⟩ ++ ⟨#[52]⟩ ++ ⟨#[32, 61, 32, 120]⟩ : ByteArray) = bs (longT 2 k) := by
    have e : longT 2 k = longT 2 4 := by unfold longT; simp [hc]
    rw [e]; rfl
  have hXs : (⟨#[49, 94]⟩ ++ ⟨#[52]⟩ ++ ⟨#[32, 61, 32, 120]⟩ : ByteArray).size ≤ 140737488351232 := by decide
  go_enter Try.func6, Try.ntmps6
  go_wp2_with fail
  refine (awake_any _).mono ?_
  rintro e w1 ⟨rfl, hb1⟩
  have HBr := Lib.hid hb1
  clear hb1
  go_wp2_with fail
  have hXs2 : (bs (longT 2 k)).size ≤ 140737488351232 := by rw [← hX]; exact hXs
  clear hX hXs
  have hX : bs (longT 2 k) = bs (longT 2 k) := rfl
  have hXs := hXs2
  clear hXs2
  obtain ⟨x, hPs⟩ := says_none 2 k (bs (longT 2 k)) (by omega) (by omega) hX (by simp [wantL, hc]) hXs w1
  have HPs := Lib.hid hPs
  clear hX hXs hPs
  go_wp2_with fail
  refine HPs.out.mono ?_
  rintro e w9 ⟨⟨u, z, rfl, -⟩, hb9⟩
  have HB9 := Lib.hid (HBr.out.trans (hb9.mono HBr.out.size))
  clear hb9
  go_wp2
  go_ret
  exact ⟨rfl, HB9.out⟩
theorem rune5 (w : World) : (convert 21 9 (.int .i32 53)).run Try.prog w = .ok (.string ⟨#[53]⟩) w := by kernel_rfl
set_option maxHeartbeats 4000000 in
set_option maxRecDepth 100000 in
theorem kind2_5 (q h k : Nat) (hq5 : q ≤ 255) (hh5 : h ≤ 255) (hq : q % 80 = k) (hh : h % 4 = 2) (hc : k % 10 = 5) (w : World) :
    Calls Try.prog 6 #[.int .u8 (q : Int), .int .u8 (h : Int)] w fun e w' => e = .returned (.bool true) ∧ Below w.heap.size w w' := by
  have hqi : (q : Int) % 80 = (k : Int) := by omega
  have hhi : (h : Int) % 4 = 2 := by omega
  have hk : k < 80 := by omega
  clear hq hh
  have hci : (k : Int) % 10 = 5 := by omega
  have hrn := rune5
  have hX : (⟨#[49, 94]⟩ ++ ⟨#[53]⟩ ++ ⟨#[32, 61, 32, 120]⟩ : ByteArray) = bs (longT 2 k) := by
    have e : longT 2 k = longT 2 5 := by unfold longT; simp [hc]
    rw [e]; rfl
  have hXs : (⟨#[49, 94]⟩ ++ ⟨#[53]⟩ ++ ⟨#[32, 61, 32, 120]⟩ : ByteArray).size ≤ 140737488351232 := by decide
  go_enter Try.func6, Try.ntmps6
  go_wp2_with fail
  refine (awake_any _).mono ?_
  rintro e w1 ⟨rfl, hb1⟩
  have HBr := Lib.hid hb1
  clear hb1
  go_wp2_with fail
  have hXs2 : (bs (longT 2 k)).size ≤ 140737488351232 := by rw [← hX]; exact hXs
  clear hX hXs
  have hX : bs (longT 2 k) = bs (longT 2 k) := rfl
  have hXs := hXs2
  clear hXs2
  obtain ⟨x, hPs⟩ := says_none 2 k (bs (longT 2 k)) (by omega) (by omega) hX (by simp [wantL, hc]) hXs w1
  have HPs := Lib.hid hPs
  clear hX hXs hPs
  go_wp2_with fail
  refine HPs.out.mono ?_
  rintro e w9 ⟨⟨u, z, rfl, -⟩, hb9⟩
  have HB9 := Lib.hid (HBr.out.trans (hb9.mono HBr.out.size))
  clear hb9
  go_wp2
  go_ret
  exact ⟨rfl, HB9.out⟩
theorem rune6 (w : World) : (convert 21 9 (.int .i32 54)).run Try.prog w = .ok (.string ⟨#[54]⟩) w := by kernel_rfl
set_option maxHeartbeats 4000000 in
set_option maxRecDepth 100000 in
theorem kind2_6 (q h k : Nat) (hq5 : q ≤ 255) (hh5 : h ≤ 255) (hq : q % 80 = k) (hh : h % 4 = 2) (hc : k % 10 = 6) (w : World) :
    Calls Try.prog 6 #[.int .u8 (q : Int), .int .u8 (h : Int)] w fun e w' => e = .returned (.bool true) ∧ Below w.heap.size w w' := by
  have hqi : (q : Int) % 80 = (k : Int) := by omega
  have hhi : (h : Int) % 4 = 2 := by omega
  have hk : k < 80 := by omega
  clear hq hh
  have hci : (k : Int) % 10 = 6 := by omega
  have hrn := rune6
  have hX : (⟨#[49, 94]⟩ ++ ⟨#[54]⟩ ++ ⟨#[32, 61, 32, 120]⟩ : ByteArray) = bs (longT 2 k) := by
    have e : longT 2 k = longT 2 6 := by unfold longT; simp [hc]
    rw [e]; rfl
  have hXs : (⟨#[49, 94]⟩ ++ ⟨#[54]⟩ ++ ⟨#[32, 61, 32, 120]⟩ : ByteArray).size ≤ 140737488351232 := by decide
  go_enter Try.func6, Try.ntmps6
  go_wp2_with fail
  refine (awake_any _).mono ?_
  rintro e w1 ⟨rfl, hb1⟩
  have HBr := Lib.hid hb1
  clear hb1
  go_wp2_with fail
  have hXs2 : (bs (longT 2 k)).size ≤ 140737488351232 := by rw [← hX]; exact hXs
  clear hX hXs
  have hX : bs (longT 2 k) = bs (longT 2 k) := rfl
  have hXs := hXs2
  clear hXs2
  obtain ⟨x, hPs⟩ := says_none 2 k (bs (longT 2 k)) (by omega) (by omega) hX (by simp [wantL, hc]) hXs w1
  have HPs := Lib.hid hPs
  clear hX hXs hPs
  go_wp2_with fail
  refine HPs.out.mono ?_
  rintro e w9 ⟨⟨u, z, rfl, -⟩, hb9⟩
  have HB9 := Lib.hid (HBr.out.trans (hb9.mono HBr.out.size))
  clear hb9
  go_wp2
  go_ret
  exact ⟨rfl, HB9.out⟩
theorem rune7 (w : World) : (convert 21 9 (.int .i32 55)).run Try.prog w = .ok (.string ⟨#[55]⟩) w := by kernel_rfl
set_option maxHeartbeats 4000000 in
set_option maxRecDepth 100000 in
theorem kind2_7 (q h k : Nat) (hq5 : q ≤ 255) (hh5 : h ≤ 255) (hq : q % 80 = k) (hh : h % 4 = 2) (hc : k % 10 = 7) (w : World) :
    Calls Try.prog 6 #[.int .u8 (q : Int), .int .u8 (h : Int)] w fun e w' => e = .returned (.bool true) ∧ Below w.heap.size w w' := by
  have hqi : (q : Int) % 80 = (k : Int) := by omega
  have hhi : (h : Int) % 4 = 2 := by omega
  have hk : k < 80 := by omega
  clear hq hh
  have hci : (k : Int) % 10 = 7 := by omega
  have hrn := rune7
  have hX : (⟨#[49, 94]⟩ ++ ⟨#[55]⟩ ++ ⟨#[32, 61, 32, 120]⟩ : ByteArray) = bs (longT 2 k) := by
    have e : longT 2 k = longT 2 7 := by unfold longT; simp [hc]
    rw [e]; rfl
  have hXs : (⟨#[49, 94]⟩ ++ ⟨#[55]⟩ ++ ⟨#[32, 61, 32, 120]⟩ : ByteArray).size ≤ 140737488351232 := by decide
  go_enter Try.func6, Try.ntmps6
  go_wp2_with fail
  refine (awake_any _).mono ?_
  rintro e w1 ⟨rfl, hb1⟩
  have HBr := Lib.hid hb1
  clear hb1
  go_wp2_with fail
  have hXs2 : (bs (longT 2 k)).size ≤ 140737488351232 := by rw [← hX]; exact hXs
  clear hX hXs
  have hX : bs (longT 2 k) = bs (longT 2 k) := rfl
  have hXs := hXs2
  clear hXs2
  obtain ⟨x, hPs⟩ := says_none 2 k (bs (longT 2 k)) (by omega) (by omega) hX (by simp [wantL, hc]) hXs w1
  have HPs := Lib.hid hPs
  clear hX hXs hPs
  go_wp2_with fail
  refine HPs.out.mono ?_
  rintro e w9 ⟨⟨u, z, rfl, -⟩, hb9⟩
  have HB9 := Lib.hid (HBr.out.trans (hb9.mono HBr.out.size))
  clear hb9
  go_wp2
  go_ret
  exact ⟨rfl, HB9.out⟩
theorem rune8 (w : World) : (convert 21 9 (.int .i32 56)).run Try.prog w = .ok (.string ⟨#[56]⟩) w := by kernel_rfl
set_option maxHeartbeats 4000000 in
set_option maxRecDepth 100000 in
theorem kind2_8 (q h k : Nat) (hq5 : q ≤ 255) (hh5 : h ≤ 255) (hq : q % 80 = k) (hh : h % 4 = 2) (hc : k % 10 = 8) (w : World) :
    Calls Try.prog 6 #[.int .u8 (q : Int), .int .u8 (h : Int)] w fun e w' => e = .returned (.bool true) ∧ Below w.heap.size w w' := by
  have hqi : (q : Int) % 80 = (k : Int) := by omega
  have hhi : (h : Int) % 4 = 2 := by omega
  have hk : k < 80 := by omega
  clear hq hh
  have hci : (k : Int) % 10 = 8 := by omega
  have hrn := rune8
  have hX : (⟨#[49, 94]⟩ ++ ⟨#[56]⟩ ++ ⟨#[32, 61, 32, 120]⟩ : ByteArray) = bs (longT 2 k) := by
    have e : longT 2 k = longT 2 8 := by unfold longT; simp [hc]
    rw [e]; rfl
  have hXs : (⟨#[49, 94]⟩ ++ ⟨#[56]⟩ ++ ⟨#[32, 61, 32, 120]⟩ : ByteArray).size ≤ 140737488351232 := by decide
  go_enter Try.func6, Try.ntmps6
  go_wp2_with fail
  refine (awake_any _).mono ?_
  rintro e w1 ⟨rfl, hb1⟩
  have HBr := Lib.hid hb1
  clear hb1
  go_wp2_with fail
  have hXs2 : (bs (longT 2 k)).size ≤ 140737488351232 := by rw [← hX]; exact hXs
  clear hX hXs
  have hX : bs (longT 2 k) = bs (longT 2 k) := rfl
  have hXs := hXs2
  clear hXs2
  obtain ⟨x, hPs⟩ := says_none 2 k (bs (longT 2 k)) (by omega) (by omega) hX (by simp [wantL, hc]) hXs w1
  have HPs := Lib.hid hPs
  clear hX hXs hPs
  go_wp2_with fail
  refine HPs.out.mono ?_
  rintro e w9 ⟨⟨u, z, rfl, -⟩, hb9⟩
  have HB9 := Lib.hid (HBr.out.trans (hb9.mono HBr.out.size))
  clear hb9
  go_wp2
  go_ret
  exact ⟨rfl, HB9.out⟩
theorem rune9 (w : World) : (convert 21 9 (.int .i32 57)).run Try.prog w = .ok (.string ⟨#[57]⟩) w := by kernel_rfl
set_option maxHeartbeats 4000000 in
set_option maxRecDepth 100000 in
theorem kind2_9 (q h k : Nat) (hq5 : q ≤ 255) (hh5 : h ≤ 255) (hq : q % 80 = k) (hh : h % 4 = 2) (hc : k % 10 = 9) (w : World) :
    Calls Try.prog 6 #[.int .u8 (q : Int), .int .u8 (h : Int)] w fun e w' => e = .returned (.bool true) ∧ Below w.heap.size w w' := by
  have hqi : (q : Int) % 80 = (k : Int) := by omega
  have hhi : (h : Int) % 4 = 2 := by omega
  have hk : k < 80 := by omega
  clear hq hh
  have hci : (k : Int) % 10 = 9 := by omega
  have hrn := rune9
  have hX : (⟨#[49, 94]⟩ ++ ⟨#[57]⟩ ++ ⟨#[32, 61, 32, 120]⟩ : ByteArray) = bs (longT 2 k) := by
    have e : longT 2 k = longT 2 9 := by unfold longT; simp [hc]
    rw [e]; rfl
  have hXs : (⟨#[49, 94]⟩ ++ ⟨#[57]⟩ ++ ⟨#[32, 61, 32, 120]⟩ : ByteArray).size ≤ 140737488351232 := by decide
  go_enter Try.func6, Try.ntmps6
  go_wp2_with fail
  refine (awake_any _).mono ?_
  rintro e w1 ⟨rfl, hb1⟩
  have HBr := Lib.hid hb1
  clear hb1
  go_wp2_with fail
  have hXs2 : (bs (longT 2 k)).size ≤ 140737488351232 := by rw [← hX]; exact hXs
  clear hX hXs
  have hX : bs (longT 2 k) = bs (longT 2 k) := rfl
  have hXs := hXs2
  clear hXs2
  have HPs := Lib.hid (says_some 2 k 2 (bs (longT 2 k)) (by omega) (by omega) hX (by simp [wantL, hc]) hXs w1)
  clear hX hXs
  go_wp2_with fail
  refine HPs.out.mono ?_
  rintro e w9 ⟨rfl, hb9⟩
  have HB9 := Lib.hid (HBr.out.trans (hb9.mono HBr.out.size))
  clear hb9
  go_wp2
  go_ret
  exact ⟨rfl, HB9.out⟩
set_option maxHeartbeats 4000000 in
set_option maxRecDepth 100000 in
theorem kind3_0 (q h k : Nat) (hq5 : q ≤ 255) (hh5 : h ≤ 255) (hq : q % 80 = k) (hh : h % 4 = 3) (hc : k % 4 = 0) (w : World) :
    Calls Try.prog 6 #[.int .u8 (q : Int), .int .u8 (h : Int)] w fun e w' => e = .returned (.bool true) ∧ Below w.heap.size w w' := by
  have hqi : (q : Int) % 80 = (k : Int) := by omega
  have hhi : (h : Int) % 4 = 3 := by omega
  have hk : k < 80 := by omega
  clear hq hh
  have hci : (k : Int) % 4 = 0 := by omega
  have hX : (⟨#[97, 32, 43, 32, 98, 32, 43, 32, 99, 32, 43, 32, 100, 32, 43, 32]⟩ ++ ⟨#[97]⟩ ++ ⟨#[32, 61, 32, 48]⟩ : ByteArray) = bs (longT 3 k) := by
    have e : longT 3 k = longT 3 0 := by unfold longT; simp [hc]
    rw [e]; rfl
  have hXs : (⟨#[97, 32, 43, 32, 98, 32, 43, 32, 99, 32, 43, 32, 100, 32, 43, 32]⟩ ++ ⟨#[97]⟩ ++ ⟨#[32, 61, 32, 48]⟩ : ByteArray).size ≤ 140737488351232 := by decide
  go_enter Try.func6, Try.ntmps6
  go_wp2_with fail
  refine (awake_any _).mono ?_
  rintro e w1 ⟨rfl, hb1⟩
  have HBr := Lib.hid hb1
  clear hb1
  go_wp2_with fail
  have hXs2 : (bs (longT 3 k)).size ≤ 140737488351232 := by rw [← hX]; exact hXs
  clear hX hXs
  have hX : bs (longT 3 k) = bs (longT 3 k) := rfl
  have hXs := hXs2
  have HB2 := Lib.hid (HBr.out.alloc HBr.out.size (.cells #[.string ⟨#[97]⟩, .string ⟨#[101]⟩, .string ⟨#[100]⟩, .string ⟨#[99, 49]⟩] 9))
  clear hXs2
  obtain ⟨x, hPs⟩ := says_none 3 k (bs (longT 3 k)) (by omega) (by omega) hX (by simp [wantL, hc]) hXs (w1.alloc (.cells #[.string ⟨#[97]⟩, .string ⟨#[101]⟩, .string ⟨#[100]⟩, .string ⟨#[99, 49]⟩] 9))
  have HPs := Lib.hid hPs
  clear hX hXs hPs
  go_wp2_with fail
  refine HPs.out.mono ?_
  rintro e w9 ⟨⟨u, z, rfl, -⟩, hb9⟩
  have HB9 := Lib.hid (HB2.out.trans (hb9.mono HB2.out.size))
  clear hb9
  go_wp2
  go_ret
  exact ⟨rfl, HB9.out⟩
set_option maxHeartbeats 4000000 in
set_option maxRecDepth 100000 in
theorem kind3_1 (q h k : Nat) (hq5 : q ≤ 255) (hh5 : h ≤ 255) (hq : q % 80 = k) (hh : h % 4 = 3) (hc : k % 4 = 1) (w : World) :
    Calls Try.prog 6 #[.int .u8 (q : Int), .int .u8 (h : Int)] w fun e w' => e = .returned (.bool true) ∧ Below w.heap.size w w' := by
  have hqi : (q : Int) % 80 = (k : Int) := by omega
  have hhi : (h : Int) % 4 = 3 := by omega
  have hk : k < 80 := by omega
  clear hq hh
  have hci : (k : Int) % 4 = 1 := by omega
  have hX : (⟨#[97, 32, 43, 32, 98, 32, 43, 32, 99, 32, 43, 32, 100, 32, 43, 32]⟩ ++ ⟨#[101]⟩ ++ ⟨#[32, 61, 32, 48]⟩ : ByteArray) = bs (longT 3 k) := by
    have e : longT 3 k = longT 3 1 := by unfold longT; simp [hc]
    rw [e]; rfl
  have hXs : (⟨#[97, 32, 43, 32, 98, 32, 43, 32, 99, 32, 43, 32, 100, 32, 43, 32]⟩ ++ ⟨#[101]⟩ ++ ⟨#[32, 61, 32, 48]⟩ : ByteArray).size ≤ 140737488351232 := by decide
  go_enter Try.func6, Try.ntmps6
  go_wp2_with fail
  refine (awake_any _).mono ?_
  rintro e w1 ⟨rfl, hb1⟩
  have HBr := Lib.hid hb1
  clear hb1
  go_wp2_with fail
  have hXs2 : (bs (longT 3 k)).size ≤ 140737488351232 := by rw [← hX]; exact hXs
  clear hX hXs
  have hX : bs (longT 3 k) = bs (longT 3 k) := rfl
  have hXs := hXs2
  have HB2 := Lib.hid (HBr.out.alloc HBr.out.size (.cells #[.string ⟨#[97]⟩, .string ⟨#[101]⟩, .string ⟨#[100]⟩, .string ⟨#[99, 49]⟩] 9))
  clear hXs2
  have HPs := Lib.hid (says_some 3 k 16 (bs (longT 3 k)) (by omega) (by omega) hX (by simp [wantL, hc]) hXs (w1.alloc (.cells #[.string ⟨#[97]⟩, .string ⟨#[101]⟩, .string ⟨#[100]⟩, .string ⟨#[99, 49]⟩] 9)))
  clear hX hXs
  go_wp2_with fail
  refine HPs.out.mono ?_
  rintro e w9 ⟨rfl, hb9⟩
  have HB9 := Lib.hid (HB2.out.trans (hb9.mono HB2.out.size))
  clear hb9
  go_wp2
  go_ret
  exact ⟨rfl, HB9.out⟩
set_option maxHeartbeats 4000000 in
set_option maxRecDepth 100000 in
theorem kind3_2 (q h k : Nat) (hq5 : q ≤ 255) (hh5 : h ≤ 255) (hq : q % 80 = k) (hh : h % 4 = 3) (hc : k % 4 = 2) (w : World) :
    Calls Try.prog 6 #[.int .u8 (q : Int), .int .u8 (h : Int)] w fun e w' => e = .returned (.bool true) ∧ Below w.heap.size w w' := by
  have hqi : (q : Int) % 80 = (k : Int) := by omega
  have hhi : (h : Int) % 4 = 3 := by omega
  have hk : k < 80 := by omega
  clear hq hh
  have hci : (k : Int) % 4 = 2 := by omega
  have hX : (⟨#[97, 32, 43, 32, 98, 32, 43, 32, 99, 32, 43, 32, 100, 32, 43, 32]⟩ ++ ⟨#[100]⟩ ++ ⟨#[32, 61, 32, 48]⟩ : ByteArray) = bs (longT 3 k) := by
    have e : longT 3 k = longT 3 2 := by unfold longT; simp [hc]
    rw [e]; rfl
  have hXs : (⟨#[97, 32, 43, 32, 98, 32, 43, 32, 99, 32, 43, 32, 100, 32, 43, 32]⟩ ++ ⟨#[100]⟩ ++ ⟨#[32, 61, 32, 48]⟩ : ByteArray).size ≤ 140737488351232 := by decide
  go_enter Try.func6, Try.ntmps6
  go_wp2_with fail
  refine (awake_any _).mono ?_
  rintro e w1 ⟨rfl, hb1⟩
  have HBr := Lib.hid hb1
  clear hb1
  go_wp2_with fail
  have hXs2 : (bs (longT 3 k)).size ≤ 140737488351232 := by rw [← hX]; exact hXs
  clear hX hXs
  have hX : bs (longT 3 k) = bs (longT 3 k) := rfl
  have hXs := hXs2
  have HB2 := Lib.hid (HBr.out.alloc HBr.out.size (.cells #[.string ⟨#[97]⟩, .string ⟨#[101]⟩, .string ⟨#[100]⟩, .string ⟨#[99, 49]⟩] 9))
  clear hXs2
  obtain ⟨x, hPs⟩ := says_none 3 k (bs (longT 3 k)) (by omega) (by omega) hX (by simp [wantL, hc]) hXs (w1.alloc (.cells #[.string ⟨#[97]⟩, .string ⟨#[101]⟩, .string ⟨#[100]⟩, .string ⟨#[99, 49]⟩] 9))
  have HPs := Lib.hid hPs
  clear hX hXs hPs
  go_wp2_with fail
  refine HPs.out.mono ?_
  rintro e w9 ⟨⟨u, z, rfl, -⟩, hb9⟩
  have HB9 := Lib.hid (HB2.out.trans (hb9.mono HB2.out.size))
  clear hb9
  go_wp2
  go_ret
  exact ⟨rfl, HB9.out⟩
set_option maxHeartbeats 4000000 in
set_option maxRecDepth 100000 in
theorem kind3_3 (q h k : Nat) (hq5 : q ≤ 255) (hh5 : h ≤ 255) (hq : q % 80 = k) (hh : h % 4 = 3) (hc : k % 4 = 3) (w : World) :
    Calls Try.prog 6 #[.int .u8 (q : Int), .int .u8 (h : Int)] w fun e w' => e = .returned (.bool true) ∧ Below w.heap.size w w' := by
  have hqi : (q : Int) % 80 = (k : Int) := by omega
  have hhi : (h : Int) % 4 = 3 := by omega
  have hk : k < 80 := by omega
  clear hq hh
  have hci : (k : Int) % 4 = 3 := by omega
  have hX : (⟨#[97, 32, 43, 32, 98, 32, 43, 32, 99, 32, 43, 32, 100, 32, 43, 32]⟩ ++ ⟨#[99, 49]⟩ ++ ⟨#[32, 61, 32, 48]⟩ : ByteArray) = bs (longT 3 k) := by
    have e : longT 3 k = longT 3 3 := by unfold longT; simp [hc]
    rw [e]; rfl
  have hXs : (⟨#[97, 32, 43, 32, 98, 32, 43, 32, 99, 32, 43, 32, 100, 32, 43, 32]⟩ ++ ⟨#[99, 49]⟩ ++ ⟨#[32, 61, 32, 48]⟩ : ByteArray).size ≤ 140737488351232 := by decide
  go_enter Try.func6, Try.ntmps6
  go_wp2_with fail
  refine (awake_any _).mono ?_
  rintro e w1 ⟨rfl, hb1⟩
  have HBr := Lib.hid hb1
  clear hb1
  go_wp2_with fail
  have hXs2 : (bs (longT 3 k)).size ≤ 140737488351232 := by rw [← hX]; exact hXs
  clear hX hXs
  have hX : bs (longT 3 k) = bs (longT 3 k) := rfl
  have hXs := hXs2
  have HB2 := Lib.hid (HBr.out.alloc HBr.out.size (.cells #[.string ⟨#[97]⟩, .string ⟨#[101]⟩, .string ⟨#[100]⟩, .string ⟨#[99, 49]⟩] 9))
  clear hXs2
  have HPs := Lib.hid (says_some 3 k 16 (bs (longT 3 k)) (by omega) (by omega) hX (by simp [wantL, hc]) hXs (w1.alloc (.cells #[.string ⟨#[97]⟩, .string ⟨#[101]⟩, .string ⟨#[100]⟩, .string ⟨#[99, 49]⟩] 9)))
  clear hX hXs
  go_wp2_with fail
  refine HPs.out.mono ?_
  rintro e w9 ⟨rfl, hb9⟩
  have HB9 := Lib.hid (HB2.out.trans (hb9.mono HB2.out.size))
  clear hb9
  go_wp2
  go_ret
  exact ⟨rfl, HB9.out⟩
theorem small (q h : Nat) (hq5 : q ≤ 255) (hh5 : h ≤ 255) (w : World) :
    Calls Try.prog 6 #[.int .u8 (q : Int), .int .u8 (h : Int)] w fun e w' => e = .returned (.bool true) ∧ Below w.heap.size w w' := by
  have h4 : h % 4 = 0 ∨ h % 4 = 1 ∨ h % 4 = 2 ∨ h % 4 = 3 := by omega
  rcases h4 with h4 | h4 | h4 | h4
  · by_cases hk : 60 < q % 80
    · exact kind0_big q h _ hq5 hh5 rfl h4 hk w
    · exact kind0_small q h _ hq5 hh5 rfl h4 (by omega) w
  · by_cases hk : 15 < q % 80
    · exact kind1_big q h _ hq5 hh5 rfl h4 hk w
    · exact kind1_small q h _ hq5 hh5 rfl h4 (by omega) w
  · have hc : q % 80 % 10 = 0 ∨ q % 80 % 10 = 1 ∨ q % 80 % 10 = 2 ∨ q % 80 % 10 = 3 ∨ q % 80 % 10 = 4 ∨ q % 80 % 10 = 5 ∨ q % 80 % 10 = 6 ∨ q % 80 % 10 = 7 ∨ q % 80 % 10 = 8 ∨ q % 80 % 10 = 9 := by omega
    rcases hc with hc | hc | hc | hc | hc | hc | hc | hc | hc | hc
    · exact kind2_0 q h _ hq5 hh5 rfl h4 hc w
    · exact kind2_1 q h _ hq5 hh5 rfl h4 hc w
    · exact kind2_2 q h _ hq5 hh5 rfl h4 hc w
    · exact kind2_3 q h _ hq5 hh5 rfl h4 hc w
    · exact kind2_4 q h _ hq5 hh5 rfl h4 hc w
    · exact kind2_5 q h _ hq5 hh5 rfl h4 hc w
    · exact kind2_6 q h _ hq5 hh5 rfl h4 hc w
    · exact kind2_7 q h _ hq5 hh5 rfl h4 hc w
    · exact kind2_8 q h _ hq5 hh5 rfl h4 hc w
    · exact kind2_9 q h _ hq5 hh5 rfl h4 hc w
  · have hc : q % 80 % 4 = 0 ∨ q % 80 % 4 = 1 ∨ q % 80 % 4 = 2 ∨ q % 80 % 4 = 3 := by omega
    rcases hc with hc | hc | hc | hc
    · exact kind3_0 q h _ hq5 hh5 rfl h4 hc w
    · exact kind3_1 q h _ hq5 hh5 rfl h4 hc w
    · exact kind3_2 q h _ hq5 hh5 rfl h4 hc w
    · exact kind3_3 q h _ hq5 hh5 rfl h4 hc w

theorem walk (q c : Int) (hq : (Lit.int .u8 q).wf = true) (hc : (Lit.int .u8 c).wf = true) (w : World) :
    Calls Try.prog 6 #[.int .u8 q, .int .u8 c] w fun e w' => e = .returned (.bool true) ∧ Below w.heap.size w w' := by
  have b1 := bounds_u8 hq
  have b2 := bounds_u8 hc
  obtain ⟨q, rfl⟩ := Int.eq_ofNat_of_zero_le b1.1
  obtain ⟨c, rfl⟩ := Int.eq_ofNat_of_zero_le b2.1
  exact small q c (by omega) (by omega) w

theorem own : ownKnob Try.prog.godebug = none := by kernel_rfl

set_option maxRecDepth 100000 in
theorem lifted (os : Os) (started : os.Started) (H : Type) (enc : TypeId × Value → H) :
    ReturnsInHanded {} Try.checked os 6 .any (Rows.parserLongSpec.pre6 enc Try.prog Try.f6 Rows.parserLongRow.domain false) (Rows.parserLongSpec.post enc Try.prog Try.f6 false true false false) := by
  refine returnsInHanded_of_change (C := Try.checked) own started (by kernel_rfl) Try.func6
    (ChangeSpec.witness6 (enc := enc) (C := Try.checked) false ⟨#[], #[.int .u8 0, .int .u8 0], []⟩ 8 (by kernel_rfl) (by kernel_rfl) (by kernel_rfl) (by kernel_rfl)) ?_
  intro W base args ds gs before hval0 hW hcnd _
  have hval : ∀ (j : Nat) t v, Try.f6.params[j]? = some t → args[j]? = some v → Value.okWide Try.prog W .any base t v := hval0
  have hW' := hW
  obtain ⟨p, q, hA0, hV, rfl, hfz, hnd⟩ := hW
  have hA : DataW.TrodAll enc Try.prog W 0 (fun _ => true) true Try.f6.params.toList args.toList ds p := hA0
  rw [Try.params6] at hA hval
  obtain ⟨v0, vs0, d0, ds0, p0, q0, hargs, rfl, rfl, h0, r0⟩ := trodAll_cons hA
  obtain ⟨v1, vs1, d1, ds1, p1, q1, rfl, rfl, rfl, h1, r1⟩ := trodAll_cons r0
  obtain ⟨rfl, rfl, rfl⟩ := trodAll_nil r1
  obtain rfl : args = #[v0, v1] := by cases args; simp_all
  obtain ⟨rfl, rfl⟩ := trodVars_none hV
  obtain ⟨a0, rfl, rfl, rfl, w0⟩ := open_int Try.underlying5 (hval 0 5 v0 rfl rfl) h0
  obtain ⟨a1, rfl, rfl, rfl, w1⟩ := open_int Try.underlying5 (hval 1 5 v1 rfl rfl) h1
  clear hA0 hval0
  simp only [List.append_nil] at hW'
  refine (walk a0 a1 w0 w1 W ).mono fun e W' ⟨he, bel⟩ => ?_
  subst he
  exact ⟨_, rfl, _, _, _, [], _, [], hW', trodAll_mk1 (shut_bool Try.underlying4 _), (trodAll_cons_mk (shut_int Try.underlying5 w0) (trodAll_cons_mk (shut_int Try.underlying5 w1) trodAll_mk0)), rfl, bel.frame _, fun h => by cases h⟩

theorem over : Rows.parserLongRow.holds Try.pinned (OpenSpec.ofChange Rows.parserLongSpec) :=
  OpenClaim.holds_of_wide 6 Try.f6 rfl rfl rfl rfl rfl rfl rfl ⟨rfl, rfl, rfl, rfl, rfl⟩ rfl rfl rfl rfl rfl (by kernel_rfl) Try.func6 (by kernel_rfl)
    (of_decide_eq_true (by kernel_rfl)) (by unfold Func.isWrapper; first | (rw [if_pos (by decide +kernel)]; kernel_rfl) | (rw [if_neg (by decide +kernel)]; exact ⟨rfl, rfl⟩))
    (fun os started H enc _ => lifted os started H enc)

/-- THE STATEMENT -/
theorem proved : Rows.ParserLongSaid := over
end Go.Proofs.Ytkjbfomokdjbnaa.parserLong
