/-
  ParserChains: for every chain the law returns true: the connective that binds weakest is at the top. No condition.
-/
import Derived.Test.YtkjbfomokdjbnaaPaK2
import Derived.Test.YtkjbfomokdjbnaaPaV
import Derived.Test.YtkjbfomokdjbnaaPaE
import Derived.Test.YtkjbfomokdjbnaaOpn
import Derived.Test.YtkjbfomokdjbnaaRows
import Derived.ProofKit
import Derived.OpenShut
import Derived.ShutString
import Derived.Lib.QuietBelow
import Derived.BigQuiet
import Derived.Deep.QuietTactic
namespace Go.Proofs.Ytkjbfomokdjbnaa.parserChains
open Go.ChangeShapes Go.WideShapes Go.ChangeAt Go.RowKit Go.Sort Go.Proofs.Ytkjbfomokdjbnaa Go.Proofs.Ytkjbfomokdjbnaa.Lx Go.Proofs.Ytkjbfomokdjbnaa.Fm Go.Proofs.Ytkjbfomokdjbnaa.Pa
open Go.ChangeMaps (open_string shut_string)
set_option linter.unusedVariables false
set_option linter.unusedSimpArgs false
attribute [local go_sem] run_store
theorem bs_cat (a b : Bytes) : bs a ++ bs b = bs (a ++ b) := WideShapes.bytes_inj (by simp [bs])
theorem chS_snoc (l : List Nat) (k : Nat) : chS (l ++ [k]) = chS l ++ ((32 :: (opW k ++ [32])) ++ wTrue) := by simp [chS, tlS]
theorem Wf_snoc (l : List Nat) (k : Nat) : Wf (l ++ [k]) = stepW (Wf l) k := by simp [Wf]
def wordS (k : Nat) : ByteArray := bs (32 :: (opW k ++ [32]))
theorem wordS_size (k : Nat) : (wordS k).size ≤ 9 := by
  show (32 :: (opW k ++ [32])).length ≤ 9
  have : (opW k).length ≤ 7 := by unfold opW; split; decide; split; decide; split <;> decide
  simp; omega
mutual
theorem lvT_tm : ∀ t : Tm, lvT (plainT t) = 0
  | .odd => rfl
  | .num _ _ => rfl
  | .name _ => rfl
  | .add l r => by unfold plainT lvT; rw [if_neg (by decide)]; unfold lvTL lvTL lvTL; rw [lvT_tm l, lvT_tm r]
  | .sub l r => by unfold plainT lvT; rw [if_neg (by decide)]; unfold lvTL lvTL lvTL; rw [lvT_tm l, lvT_tm r]
  | .mul l r => by unfold plainT lvT; rw [if_neg (by decide)]; unfold lvTL lvTL lvTL; rw [lvT_tm l, lvT_tm r]
  | .neg t => by unfold plainT lvT; rw [if_neg (by decide)]; unfold lvTL lvTL; rw [lvT_tm t]
  | .pow t e => by unfold plainT lvT; rw [if_neg (by simp [hd0])]; unfold lvTL lvTL; rw [lvT_tm t]
end
theorem lvT_fo : ∀ f : Fo, lvT (plainF f) = lv f
  | .odd => rfl
  | .truth _ => rfl
  | .atom l q r => by unfold plainF lvT; rw [if_neg (by simp [hd0])]; unfold lvTL lvTL lvTL; rw [lvT_tm l, lvT_tm r]; rfl
  | .not f => by unfold plainF lvT; rw [if_neg (by decide)]; unfold lvTL lvTL; rw [lvT_fo f]; rfl
  | .and l r => by unfold plainF lvT; rw [if_neg (by decide)]; unfold lvTL lvTL lvTL; rw [lvT_fo l, lvT_fo r]; rfl
  | .or l r => by unfold plainF lvT; rw [if_neg (by decide)]; unfold lvTL lvTL lvTL; rw [lvT_fo l, lvT_fo r]; rfl
  | .implies l r => by unfold plainF lvT; rw [if_neg (by decide)]; unfold lvTL lvTL lvTL; rw [lvT_fo l, lvT_fo r]; rfl
  | .iff l r => by unfold plainF lvT; rw [if_neg (by decide)]; unfold lvTL lvTL lvTL; rw [lvT_fo l, lvT_fo r]; rfl
  | .quant _ _ f => by unfold plainF lvT; rw [if_neg (by simp [hd0])]; unfold lvTL lvTL; rw [lvT_fo f]; rfl
def QuietV (f : FuncId) (args : Array Value) (n : Int) (W : World) : Prop := ∀ d os, Calls Try.prog f args (grow (redrawn W d) os) fun e w' => e = .returned (.int .i64 n) ∧ Below (grow (redrawn W d) os).heap.size (grow (redrawn W d) os) w'
set_option maxRecDepth 100000 in
set_option maxHeartbeats 4000000 in
theorem big (A : Option Addr) (n c : Nat) (h : 15 < n) (hn : n ≤ 9223372036854775807) (w : World) : Calls Try.prog 5 #[.slice A n c] w fun e w' => e = .returned (.bool true) ∧ Below w.heap.size w w' := by
  go_enter Try.func5, Try.ntmps5
  go_wp2_with fail
  refine (awake_any _).mono ?_
  rintro e w1 ⟨rfl, hb1⟩
  have HB1 := Lib.hid hb1
  clear hb1
  go_wp2_with fail
  refine (awake_any _).mono ?_
  rintro e w2 ⟨rfl, hb2⟩
  have HB2 := Lib.hid (HB1.out.trans (hb2.mono HB1.out.size))
  clear hb2
  go_wp2
  go_ret
  exact ⟨rfl, HB2.out⟩
set_option maxRecDepth 100000 in
set_option maxHeartbeats 4000000 in
theorem none_ (A : Option Addr) (c : Nat) (w : World) : Calls Try.prog 5 #[.slice A 0 c] w fun e w' => e = .returned (.bool true) ∧ Below w.heap.size w w' := by
  go_enter Try.func5, Try.ntmps5
  go_wp2_with fail
  refine (awake_any _).mono ?_
  rintro e w1 ⟨rfl, hb1⟩
  have HB1 := Lib.hid hb1
  clear hb1
  go_wp2_with fail
  refine (awake_any _).mono ?_
  rintro e w2 ⟨rfl, hb2⟩
  have HB2 := Lib.hid (HB1.out.trans (hb2.mono HB1.out.size))
  clear hb2
  go_wp2
  go_ret
  exact ⟨rfl, HB2.out⟩
/-- the two tables -/
theorem tabs (w1 : World) : (∀ k, k ≤ 3 → ((w1.alloc (.cells #[.string ⟨#[32, 97, 110, 100, 32]⟩, .string ⟨#[32, 111, 114, 32]⟩, .string ⟨#[32, 105, 109, 112, 108, 105, 101, 115, 32]⟩, .string ⟨#[32, 105, 102, 102, 32]⟩] 9)).alloc (.cells #[.int .i64 11, .int .i64 12, .int .i64 13, .int .i64 14] 3)).cell? ⟨w1.heap.size, k, none⟩ = some (.string (wordS k))) ∧ (∀ k, k ≤ 3 → ((w1.alloc (.cells #[.string ⟨#[32, 97, 110, 100, 32]⟩, .string ⟨#[32, 111, 114, 32]⟩, .string ⟨#[32, 105, 109, 112, 108, 105, 101, 115, 32]⟩, .string ⟨#[32, 105, 102, 102, 32]⟩] 9)).alloc (.cells #[.int .i64 11, .int .i64 12, .int .i64 13, .int .i64 14] 3)).cell? ⟨w1.heap.size + 1, k, none⟩ = some (.int .i64 ((11 + k : Nat) : Int))) := by
  have hz : (w1.alloc (.cells #[.string ⟨#[32, 97, 110, 100, 32]⟩, .string ⟨#[32, 111, 114, 32]⟩, .string ⟨#[32, 105, 109, 112, 108, 105, 101, 115, 32]⟩, .string ⟨#[32, 105, 102, 102, 32]⟩] 9)).heap.size = w1.heap.size + 1 := by simp
  have hb : Below (w1.alloc (.cells #[.string ⟨#[32, 97, 110, 100, 32]⟩, .string ⟨#[32, 111, 114, 32]⟩, .string ⟨#[32, 105, 109, 112, 108, 105, 101, 115, 32]⟩, .string ⟨#[32, 105, 102, 102, 32]⟩] 9)).heap.size (w1.alloc (.cells #[.string ⟨#[32, 97, 110, 100, 32]⟩, .string ⟨#[32, 111, 114, 32]⟩, .string ⟨#[32, 105, 109, 112, 108, 105, 101, 115, 32]⟩, .string ⟨#[32, 105, 102, 102, 32]⟩] 9)) ((w1.alloc (.cells #[.string ⟨#[32, 97, 110, 100, 32]⟩, .string ⟨#[32, 111, 114, 32]⟩, .string ⟨#[32, 105, 109, 112, 108, 105, 101, 115, 32]⟩, .string ⟨#[32, 105, 102, 102, 32]⟩] 9)).alloc (.cells #[.int .i64 11, .int .i64 12, .int .i64 13, .int .i64 14] 3)) := (Below.refl _ _).alloc (Nat.le_refl _) _
  refine ⟨fun k hk => ?_, fun k hk => ?_⟩
  · rw [hb.cell (by rw [hz]; show w1.heap.size < _; omega), cell_new]
    match k, hk with
    | 0, _ => rfl
    | 1, _ => rfl
    | 2, _ => rfl
    | 3, _ => rfl
  · rw [← hz, cell_new]
    match k, hk with
    | 0, _ => rfl
    | 1, _ => rfl
    | 2, _ => rfl
    | 3, _ => rfl
set_option maxHeartbeats 4000000 in
set_option maxRecDepth 100000 in
theorem few (b o n c : Nat) (l : List Nat) (w : World) (hn : n = l.length) (h0 : 0 < n) (h15 : n ≤ 15) (hb : b < w.heap.size)
    (hc : ∀ (i x : Nat), l[i]? = some x → w.cell? ⟨b, o + i, none⟩ = some (.int .u8 (x : Int))) (hx : ∀ x ∈ l, x ≤ 255) :
    Calls Try.prog 5 #[.slice (some ⟨b, o, none⟩) n c] w fun e w' => e = .returned (.bool true) ∧ Below w.heap.size w w' := by
  have HN := Lib.hid hn
  have HC := Lib.hid hc
  have HX := Lib.hid hx
  have HLT := Lib.hid hb
  have g1 : ¬ (15 : Int) < (n : Int) := by omega
  have g2 : ((n : Int) == 0) = false := by rw [beq_eq_false_iff_ne]; omega
  have g3 : decide ((15 : Int) < (n : Int)) = false := by simp; omega
  have g4 : decide (15 < n) = false := by simp; omega
  have g5 : (n == 0) = false := by rw [beq_eq_false_iff_ne]; omega
  clear hn hc hx hb
  go_enter Try.func5, Try.ntmps5
  go_wp2_with fail
  refine (awake_any _).mono ?_
  rintro e w1 ⟨rfl, hb1⟩
  have HB1 := Lib.hid hb1
  obtain ⟨kf, kk⟩ := tabs w1
  have hbW : Below w1.heap.size w1 ((w1.alloc (.cells #[.string ⟨#[32, 97, 110, 100, 32]⟩, .string ⟨#[32, 111, 114, 32]⟩, .string ⟨#[32, 105, 109, 112, 108, 105, 101, 115, 32]⟩, .string ⟨#[32, 105, 102, 102, 32]⟩] 9)).alloc (.cells #[.int .i64 11, .int .i64 12, .int .i64 13, .int .i64 14] 3)) := ((Below.refl _ w1).alloc (Nat.le_refl _) _).alloc (by simp) _
  have hzW : w1.heap.size + 1 < ((w1.alloc (.cells #[.string ⟨#[32, 97, 110, 100, 32]⟩, .string ⟨#[32, 111, 114, 32]⟩, .string ⟨#[32, 105, 109, 112, 108, 105, 101, 115, 32]⟩, .string ⟨#[32, 105, 102, 102, 32]⟩] 9)).alloc (.cells #[.int .i64 11, .int .i64 12, .int .i64 13, .int .i64 14] 3)).heap.size := by simp
  obtain ⟨W, hW⟩ : ∃ W, (w1.alloc (.cells #[.string ⟨#[32, 97, 110, 100, 32]⟩, .string ⟨#[32, 111, 114, 32]⟩, .string ⟨#[32, 105, 109, 112, 108, 105, 101, 115, 32]⟩, .string ⟨#[32, 105, 102, 102, 32]⟩] 9)).alloc (.cells #[.int .i64 11, .int .i64 12, .int .i64 13, .int .i64 14] 3) = W := ⟨_, rfl⟩
  rw [hW] at kf kk hbW hzW
  have HBW := Lib.hid (HB1.out.trans (hbW.mono HB1.out.size))
  have KF := Lib.hid kf
  have KK := Lib.hid kk
  have HZW := Lib.hid hzW
  clear hb1 kf kk hbW hzW
  go_wp2_with fail
  go_loopw [5, 6, 7, 31] (fun t k a i wr => ∃ (j wk at_ : Nat), j ≤ n ∧ i = .int .i64 j ∧ k = .int .i64 wk ∧ a = .int .i64 at_ ∧ wk ≤ 3 ∧ Hid (t = .string (bs (chS ((l.take j).map (· % 4)))) ∧ Wf ((l.take j).map (· % 4)) = (j, wk, at_) ∧ at_ ≤ n) ∧ wr = W) (fun _ _ _ i _ => n - (intOf i).toNat)
  case atStart => exact ⟨0, 0, 0, Nat.zero_le _, rfl, rfl, rfl, Nat.zero_le _, Lib.hid ⟨rfl, rfl, Nat.zero_le _⟩, rfl⟩
  case round =>
    obtain ⟨j, wk, at_, hj, rfl, rfl, rfl, hwk, hrel, rfl⟩ := hrel
    obtain ⟨ht, hwf, hat⟩ := hrel.out
    subst ht
    by_cases hlt : j < n
    · obtain ⟨x, hx⟩ : ∃ x, l[j]? = some x := ⟨_, List.getElem?_eq_getElem (by rw [← HN.out]; exact hlt)⟩
      have hx5 := HX.out x (List.mem_of_getElem? hx)
      have hcx := (HBW.out.cell (p := ⟨b, o + j, none⟩) HLT.out).trans (HC.out j x hx)
      have htk : (l.take (j + 1)).map (· % 4) = (l.take j).map (· % 4) ++ [x % 4] := by rw [List.take_add_one, hx]; simp
      obtain ⟨k, hk⟩ : ∃ k, k = x % 4 := ⟨_, rfl⟩
      have hk3 : k ≤ 3 := by omega
      have hki : (x : Int) % 4 = (k : Int) := by omega
      have hkf := KF.out k hk3
      have hsz := wordS_size k
      obtain ⟨wd, hwd⟩ : ∃ wd, wd = wordS k := ⟨_, rfl⟩
      rw [← hwd] at hkf hsz
      have hl15 : ((l.take j).map (· % 4)).length ≤ 15 := by simp; omega
      have hs1 := chS_len ((l.take j).map (· % 4))
      have hs2 : (bs (chS ((l.take j).map (· % 4)))).size ≤ 199 := by rw [bs_size]; omega
      obtain ⟨tx, htx⟩ : ∃ tx, tx = bs (chS ((l.take j).map (· % 4))) := ⟨_, rfl⟩
      rw [← htx] at hs2 ⊢
      have hs3 : (wd ++ ⟨#[116, 114, 117, 101]⟩ : ByteArray).size = wd.size + 4 := by rw [ByteArray.size_append]; rfl
      have hnew : tx ++ (wd ++ ⟨#[116, 114, 117, 101]⟩) = bs (chS ((l.take (j + 1)).map (· % 4))) := by
        rw [htk, ← hk, chS_snoc, htx, hwd, show (⟨#[116, 114, 117, 101]⟩ : ByteArray) = bs wTrue from rfl, wordS, bs_cat, bs_cat]
      have hwf2 : Wf ((l.take (j + 1)).map (· % 4)) = stepW (j, wk, at_) k := by rw [htk, Wf_snoc, hwf, hk]
      have HNEW := Lib.hid hnew
      have HWF := Lib.hid hwf2
      clear hrel hwf htx hwd hs1 hl15 htk hx hk hnew hwf2
      have four : j = 0 ∨ (j ≠ 0 ∧ wk < k) ∨ (j ≠ 0 ∧ k = wk ∧ k ≠ 2) ∨ (j ≠ 0 ∧ k = wk ∧ k = 2) ∨ (j ≠ 0 ∧ k < wk) := by omega
      rcases four with h | ⟨h, h1⟩ | ⟨h, h1, h2⟩ | ⟨h, h1, h2⟩ | ⟨h, h1⟩
      · subst h
        simp only [Nat.add_zero] at hcx
        have HST := Lib.hid (show Wf ((l.take (0 + 1)).map (· % 4)) = (0 + 1, k, 0) by rw [HWF.out]; unfold stepW; rw [if_pos (.inl rfl)])
        clear HWF
        go_wp2
        go_roundw
        case rel => exact ⟨0 + 1, k, 0, by omega, by go_num, rfl, rfl, hk3, Lib.hid ⟨by rw [← HNEW.out], HST.out, Nat.zero_le _⟩, (by first | rfl | trivial)⟩
        case measure => simp [intOf]; omega
      · have HST := Lib.hid (show Wf ((l.take (j + 1)).map (· % 4)) = (j + 1, k, j) by rw [HWF.out]; unfold stepW; rw [if_pos (.inr (.inl h1))])
        clear HWF
        have q1 : ((j : Int) == 0) = false := by rw [beq_eq_false_iff_ne]; omega
        have q2 : decide ((wk : Int) < (k : Int)) = true := by simp; omega
        have q3 : (wk : Int) < (k : Int) := by omega
        go_wp2
        go_roundw
        case rel => exact ⟨j + 1, k, j, by omega, by go_num, rfl, rfl, hk3, Lib.hid ⟨by rw [← HNEW.out], HST.out, hj⟩, (by first | rfl | trivial)⟩
        case measure => simp [intOf]; omega
      · subst h1
        have HST := Lib.hid (show Wf ((l.take (j + 1)).map (· % 4)) = (j + 1, k, j) by rw [HWF.out]; unfold stepW; rw [if_pos (.inr (.inr ⟨rfl, h2⟩))])
        clear HWF
        have q1 : ((j : Int) == 0) = false := by rw [beq_eq_false_iff_ne]; omega
        have q4 : ((k : Int) != 2) = true := by rw [bne_iff_ne]; omega
        have q5 : ((k : Int) == 2) = false := by rw [beq_eq_false_iff_ne]; omega
        go_wp2
        go_roundw
        case rel => exact ⟨j + 1, k, j, by omega, by go_num, rfl, rfl, hk3, Lib.hid ⟨by rw [← HNEW.out], HST.out, hj⟩, (by first | rfl | trivial)⟩
        case measure => simp [intOf]; omega
      · subst h1
        subst h2
        have HST := Lib.hid (show Wf ((l.take (j + 1)).map (· % 4)) = (j + 1, 2, at_) by rw [HWF.out]; unfold stepW; rw [if_neg (by rintro (e | e | e); exact h e; exact absurd e (Nat.lt_irrefl _); exact e.2 rfl)])
        clear HWF
        have q1 : ((j : Int) == 0) = false := by rw [beq_eq_false_iff_ne]; omega
        go_wp2
        go_roundw
        case rel => exact ⟨j + 1, 2, at_, by omega, by go_num, rfl, rfl, by omega, Lib.hid ⟨by rw [← HNEW.out], HST.out, hat⟩, (by first | rfl | trivial)⟩
        case measure => simp [intOf]; omega
      · have HST := Lib.hid (show Wf ((l.take (j + 1)).map (· % 4)) = (j + 1, wk, at_) by rw [HWF.out]; unfold stepW; rw [if_neg (by rintro (e | e | e); exact h e; exact absurd e (by show ¬ wk < k; omega); exact absurd e.1 (by show ¬ k = wk; omega))])
        clear HWF
        have q1 : ((j : Int) == 0) = false := by rw [beq_eq_false_iff_ne]; omega
        have q2 : decide ((wk : Int) < (k : Int)) = false := by simp; omega
        have q3 : ¬ (wk : Int) < (k : Int) := by omega
        have q4 : ((k : Int) == (wk : Int)) = false := by rw [beq_eq_false_iff_ne]; omega
        go_wp2
        go_roundw
        case rel => exact ⟨j + 1, wk, at_, by omega, by go_num, rfl, rfl, hwk, Lib.hid ⟨by rw [← HNEW.out], HST.out, hat⟩, (by first | rfl | trivial)⟩
        case measure => simp [intOf]; omega
    · have hjn : j = n := by omega
      have hall : l.take j = l := List.take_of_length_le (by rw [← HN.out]; omega)
      rw [hall] at hwf ⊢
      have h4 : ∀ k ∈ l.map (· % 4), k < 4 := by intro k hk; obtain ⟨x, -, rfl⟩ := List.mem_map.1 hk; omega
      have hlen : (l.map (· % 4)).length = n := by rw [List.length_map, ← HN.out]
      obtain ⟨x, hP, htop⟩ := chain_parse (l.map (· % 4)) h4 (by rw [hlen]; exact h15)
      have hs1 := chS_len (l.map (· % 4))
      have hs2 : (bs (chS (l.map (· % 4)))).size ≤ 199 := by rw [bs_size]; omega
      obtain ⟨hlv, hc0 | ⟨k, lf, rt, hxm, hk, hl, hr⟩⟩ := htop
      · rw [hc0] at hlen; simp at hlen; omega
      · rw [hwf] at hk hl hr
        dsimp only at hk hl hr
        obtain rfl : wk = k := hk
        have htree : plainF x = .mk (hd0 (11 + (wk : Int))) [plainF lf, plainF rt] := by rw [hxm]; exact mkC_tree wk lf rt (by omega)
        have hll : lvT (plainF lf) = at_ + 1 := by rw [lvT_fo, hl]
        have hrr : lvT (plainF rt) = n - at_ := by rw [lvT_fo, hr, hlen]
        have HP := Lib.hid (fun w' => Parse_walk (bs (chS (l.map (· % 4)))) _ _ _ (by rw [bs_data]; exact hP) (by omega) w')
        obtain ⟨tx, htx⟩ : ∃ tx, tx = bs (chS (l.map (· % 4))) := ⟨_, rfl⟩
        rw [← htx] at HP hs2 ⊢
        have HTREE := Lib.hid htree
        have HLL := Lib.hid hll
        have HRR := Lib.hid hrr
        clear hrel hwf htx hs1 hall h4 hlen hP hlv hxm hl hr htree hll hrr
        go_wp2_with fail
        refine (HP.out _).mono ?_
        rintro e w3 ⟨⟨u, z, rfl, hV⟩, hb3⟩
        have HB3 := Lib.hid hb3
        have hPl := plain_any x (.iface u z) _ w3 (fun b h => h) hV.1 hV.2.2
        rw [HTREE.out] at hPl
        have HPl := Lib.hid hPl
        clear hV hb3 hPl hW
        go_wp2_with fail
        refine HPl.out.mono ?_
        rintro e w4 ⟨A1, n1, c1, A2, n2, c2, rfl, hT4, hb4⟩
        obtain ⟨va, vk, xs, hcs, hab, hnm, hkl, hks, htr⟩ := hT4.cells
        dsimp only [Tr.h, Tr.kids, hd0, hdC] at hab hnm hkl hks htr hcs ⊢
        injection hcs with _ hcs
        injection hcs with _ hcs
        injection hcs with hva hcs
        injection hcs with _ hcs
        injection hcs with _ hcs
        injection hcs with _ hcs
        injection hcs with _ hcs
        injection hcs with _ hcs
        injection hcs with hvk _
        subst hva hvk
        simp only [List.length_cons, List.length_nil, Nat.zero_add, Nat.reduceAdd] at hks
        obtain ⟨A8, c8, hv8⟩ := hks.form
        injection hv8 with e1 e2 e3
        subst e1 e2 e3
        have HB34 := Lib.hid hb4
        obtain ⟨W5, hW5⟩ : ∃ W5, w4.alloc (.cells #[.int .i64 (11 + (wk : Int)), .bool false, .slice A1 n1 c1, .string ⟨#[]⟩, .int .i64 0, .int .i64 0, .bool false, .bool false, .slice A2 2 c2] TT) = W5 := ⟨_, rfl⟩
        have hbox : Box w4 W5 w4.heap.size #[.int .i64 (11 + (wk : Int)), .bool false, .slice A1 n1 c1, .string ⟨#[]⟩, .int .i64 0, .int .i64 0, .bool false, .bool false, .slice A2 2 c2] TT := by rw [← hW5]; exact Box.new w4 _ TT
        obtain ⟨x0, x1, x2, x3, x4, x5, x6, x7, x8⟩ := hbox.c9
        have hS : ∀ b, Fr w3 w4 b → b < w4.heap.size := fun b h => h.2
        have hK : 2 = [plainF lf, plainF rt].length := rfl
        obtain ⟨kd0, bb0, o0, D0, m0, d0, E0, q0, f0_, hkd0, he0, hb0, hT0, f0, f1, f2, f3, f4, f5, f6, f7, f8⟩ := kid_cells (hks.below hS hbox.below) (htr.below hS hbox.below) hK 0 (by omega)
        obtain rfl : plainF lf = kd0 := by simpa using hkd0
        obtain ⟨kd1, bb1, o1, D1, m1, d1, E1, q1, f1_, hkd1, he1, hb1', hT1, g0, g1', g2', g3', g4', g5', g6, g7, g8⟩ := kid_cells (hks.below hS hbox.below) (htr.below hS hbox.below) hK 1 (by omega)
        obtain rfl : plainF rt = kd1 := by simpa using hkd1
        rw [he0] at he1
        injection he1 with he1
        injection he1 with he1a he1b _
        subst he1a; subst he1b
        subst he0
        simp only [Nat.zero_mul, Nat.one_mul, Nat.add_zero] at f0 f1 f2 f3 f4 f5 f6 f7 f8 g0 g1' g2' g3' g4' g5' g6 g7 g8
        have hA : QuietV 14 #[.agg (hdC (plainF lf).h (.slice D0 m0 d0) (.slice E0 q0 f0_)).toArray] ((at_ : Int) + 1) W5 := fun d os => by
          have h := leaves_any (plainF lf) _ (Fr w3 w4) (grow (redrawn W5 d) os) (fun b hb => Nat.lt_of_lt_of_le (hS b hb) (Nat.le_trans hbox.below.size (below_regrown W5 d os).size)) (hT0.below (fun b hb => Nat.lt_of_lt_of_le (hS b hb) hbox.below.size) (below_regrown W5 d os)) (by rw [HLL.out]; omega)
          rw [HLL.out] at h
          exact h
        have hB : QuietV 14 #[.agg (hdC (plainF rt).h (.slice D1 m1 d1) (.slice E1 q1 f1_)).toArray] ((n - at_ : Nat) : Int) W5 := fun d os => by
          have h := leaves_any (plainF rt) _ (Fr w3 w4) (grow (redrawn W5 d) os) (fun b hb => Nat.lt_of_lt_of_le (hS b hb) (Nat.le_trans hbox.below.size (below_regrown W5 d os).size)) (hT1.below (fun b hb => Nat.lt_of_lt_of_le (hS b hb) hbox.below.size) (below_regrown W5 d os)) (by rw [HRR.out]; omega)
          rw [HRR.out] at h
          exact h
        unfold QuietV hdC at hA hB
        have HA := Lib.hid hA
        have HB := Lib.hid hB
        have hkk := ((HB3.out.trans (HB34.out.mono HB3.out.size)).trans (hbox.below.mono (Nat.le_trans HB3.out.size HB34.out.size))).cell (p := ⟨w1.heap.size + 1, wk, none⟩) HZW.out
        have hkc := hkk.trans (KK.out wk hwk)
        obtain ⟨r, hr⟩ : ∃ r, r = n - at_ := ⟨_, rfl⟩
        rw [← hr] at HB
        have hri : (n : Int) - (at_ : Int) = (r : Int) := by omega
        have hw1 : IntKind.i64.wrap ((n : Int) - (at_ : Int)) = (r : Int) := by rw [hri]; exact IntWalk.i64_in _ (by omega)
        have hw2 : IntKind.i64.wrap ((at_ : Int) + 1) = (at_ : Int) + 1 := IntWalk.i64_in _ (by omega)
        have HBX := Lib.hid (((HBW.out.trans (HB3.out.mono HBW.out.size)).trans (HB34.out.mono (Nat.le_trans HBW.out.size HB3.out.size))).trans (hbox.below.mono (Nat.le_trans (Nat.le_trans HBW.out.size HB3.out.size) HB34.out.size)))
        have hk4 : (wk : Int) < 4 := by omega
        have hk5 : wk < 4 := by omega
        have hk6 : ((at_ : Int) + 1 == (at_ : Int) + 1) = true := beq_self_eq_true _
        have hk7 : (((11 + wk : Nat) : Int)) = 11 + (wk : Int) := by omega
        have rkc := fun d os => cell_regrown hkc d os
        have rx0 := fun d os => cell_regrown x0 d os
        have rx8 := fun d os => cell_regrown x8 d os
        have rf0 := fun d os => cell_regrown f0 d os
        have rf1 := fun d os => cell_regrown f1 d os
        have rf2 := fun d os => cell_regrown f2 d os
        have rf3 := fun d os => cell_regrown f3 d os
        have rf4 := fun d os => cell_regrown f4 d os
        have rf5 := fun d os => cell_regrown f5 d os
        have rf6 := fun d os => cell_regrown f6 d os
        have rf7 := fun d os => cell_regrown f7 d os
        have rf8 := fun d os => cell_regrown f8 d os
        have rg0 := fun d os => cell_regrown g0 d os
        have rg1 := fun d os => cell_regrown g1' d os
        have rg2 := fun d os => cell_regrown g2' d os
        have rg3 := fun d os => cell_regrown g3' d os
        have rg4 := fun d os => cell_regrown g4' d os
        have rg5 := fun d os => cell_regrown g5' d os
        have rg6 := fun d os => cell_regrown g6 d os
        have rg7 := fun d os => cell_regrown g7 d os
        have rg8 := fun d os => cell_regrown g8 d os
        clear hA hB hbox hT0 hT1 hT4 hab hnm hkl hks htr hkk hr hri hb0 hb1' hkd0 hkd1 hS hK
        go_wp2_with fail
        clear hW5
        refine wp_region_quiet_below (by kernel_rfl) (by kernel_rfl) ?_
        (repeat (quiet_step (first | (with_reducible exact Calls.regrown_of (HA.out _ _)) | (with_reducible exact Calls.regrown_of (HB.out _ _)))))
        refine wpQuiet_nil ?_
        rintro _ ⟨⟨d, os⟩, rfl⟩
        have hb9 := below_regrown W5 d os
        go_wp2
        go_ret
        exact ⟨rfl, HBX.out.trans (hb9.mono HBX.out.size)⟩
theorem open_u8s {H : Type} {enc : TypeId × Value → H} {W : World} {base : Nat} {spare : Nat → Bool} {held : Bool} {fuel : Nat} {A : Option Addr} {n c : Nat} {x : DataW H × List MemPlace} (h : DataW.trod enc Try.prog W base spare held fuel 38 [.slice A n c] = some x) :
    ∃ l : List Nat, n = l.length ∧ n ≤ 9223372036854775807 ∧ (∀ x ∈ l, x ≤ 255) ∧ (0 < n → ∃ b o, A = some ⟨b, o, none⟩ ∧ b < W.heap.size ∧ ∀ (i x : Nat), l[i]? = some x → W.cell? ⟨b, o + i, none⟩ = some (.int .u8 (x : Int))) := by
  obtain ⟨A', len, cap, m, e, _, hlc, hcm, hrow⟩ := open_rows Try.underlying38 (by kernel_rfl) (by decide : 0 < 1) h
  simp only [List.cons.injEq, and_true] at e
  injection e with e1 e2 e3
  subst e1 e2 e3
  have hn : n ≤ 9223372036854775807 := by unfold maxLen at hcm; omega
  by_cases h0 : 0 < n
  · obtain ⟨b, o, rfl, hb, hat⟩ := hrow h0
    obtain ⟨l, hl, hp⟩ := list_of (n := n) (P := fun i (x : Nat) => W.cell? ⟨b, o + i, none⟩ = some (.int .u8 (x : Int)) ∧ x ≤ 255) (fun i hi => by
      obtain ⟨cs', x', h1, h2, h3⟩ := hat i hi
      obtain ⟨z, rfl, rfl, hw⟩ := DataW.trod_int Try.underlying5 h3
      have hz := bounds_u8 hw
      obtain ⟨z, rfl⟩ := Int.eq_ofNat_of_zero_le hz.1
      exact ⟨z, by have := h2 0 _ rfl; simpa using this, by omega⟩)
    refine ⟨l, hl.symm, hn, fun x hx => ?_, fun _ => ⟨b, o, rfl, hb, fun i x hi => ?_⟩⟩
    · obtain ⟨i, hi, rfl⟩ := List.getElem_of_mem hx
      exact (hp i hi).2
    · obtain ⟨hi2, rfl⟩ := List.getElem?_eq_some_iff.1 hi
      exact (hp i hi2).1
  · exact ⟨[], by simp; omega, hn, fun x hx => (by cases hx), fun h => absurd h h0⟩
theorem walk (l : List Nat) (A : Option Addr) (n c : Nat) (w : World) (hn : n = l.length) (h63 : n ≤ 9223372036854775807) (hx : ∀ x ∈ l, x ≤ 255) (hA : 0 < n → ∃ b o, A = some ⟨b, o, none⟩ ∧ b < w.heap.size ∧ ∀ (i x : Nat), l[i]? = some x → w.cell? ⟨b, o + i, none⟩ = some (.int .u8 (x : Int))) :
    Calls Try.prog 5 #[.slice A n c] w fun e w' => e = .returned (.bool true) ∧ Below w.heap.size w w' := by
  by_cases h15 : 15 < n
  · exact big A n c h15 h63 w
  · by_cases h0 : 0 < n
    · obtain ⟨b, o, rfl, hb, hc⟩ := hA h0
      exact few b o n c l w hn h0 (by omega) hb hc hx
    · obtain rfl : n = 0 := by omega
      exact none_ A c w

theorem laidOut : laidOutB Try.prog = true := by kernel_rfl

theorem own : ownKnob Try.prog.godebug = none := by kernel_rfl

set_option maxRecDepth 100000 in
theorem lifted (os : Os) (started : os.Started) (H : Type) (enc : TypeId × Value → H) :
    ReturnsInHanded {} Try.checked os 5 .any (Rows.parserChainsSpec.pre6 enc Try.prog Try.f5 Rows.parserChainsRow.domain false) (Rows.parserChainsSpec.post enc Try.prog Try.f5 false true false false) := by
  refine returnsInHanded_of_change (C := Try.checked) own started (by kernel_rfl) Try.func5
    (ChangeSpec.witness6 (enc := enc) (C := Try.checked) false ⟨#[], #[.slice none 0 0], []⟩ 8 (by kernel_rfl) (by kernel_rfl) (by kernel_rfl) (by kernel_rfl)) ?_
  intro W base args ds gs before hval0 hW hcnd _
  have hval : ∀ (j : Nat) t v, Try.f5.params[j]? = some t → args[j]? = some v → Value.okWide Try.prog W .any base t v := hval0
  have hW' := hW
  obtain ⟨p, q, hA0, hV, rfl, hfz, hnd⟩ := hW
  have hA : DataW.TrodAll enc Try.prog W 0 (fun _ => true) true Try.f5.params.toList args.toList ds p := hA0
  rw [Try.params5] at hA hval
  obtain ⟨v0, vs0, d0, ds0, p0, q0, hargs, rfl, rfl, h0, r0⟩ := trodAll_cons hA
  obtain ⟨rfl, rfl, rfl⟩ := trodAll_nil r0
  obtain rfl : args = #[v0] := by cases args; simp_all
  obtain ⟨rfl, rfl⟩ := trodVars_none hV
  obtain ⟨A0, n0, c0, rfl⟩ := okWide_slice Try.underlying38 (hval 0 38 v0 rfl rfl)
  have h0k := h0
  obtain ⟨fuel0, hf0⟩ := h0
  obtain ⟨l0, hn0, h630, hx0, hAA0⟩ := open_u8s hf0
  clear hA0 hval0
  simp only [List.append_nil] at hW'
  have hlt0 : ∀ x ∈ p0, x.block < W.heap.size := fun x hx => by simpa using hW'.lt x (by simp [hx])
  refine (walk l0 A0 n0 c0 W hn0 h630 hx0 hAA0).mono fun e W' ⟨he, bel⟩ => ?_
  subst he
  exact ⟨_, rfl, _, _, _, [], _, [], hW', trodAll_mk1 (shut_bool Try.underlying4 _), (trodAll_cons_mk (Below.trod laidOut (by kernel_rfl) (of_decide_eq_true (by kernel_rfl)) h0k bel hlt0) trodAll_mk0), rfl, bel.frame _, fun h => by cases h⟩

theorem over : Rows.parserChainsRow.holds Try.pinned (OpenSpec.ofChange Rows.parserChainsSpec) :=
  OpenClaim.holds_of_wide 5 Try.f5 rfl rfl rfl rfl rfl rfl rfl ⟨rfl, rfl, rfl, rfl, rfl⟩ rfl rfl rfl rfl rfl (by kernel_rfl) Try.func5 (by kernel_rfl)
    (of_decide_eq_true (by kernel_rfl)) (by unfold Func.isWrapper; first | (rw [if_pos (by decide +kernel)]; kernel_rfl) | (rw [if_neg (by decide +kernel)]; exact ⟨rfl, rfl⟩))
    (fun os started H enc _ => lifted os started H enc)

/-- THE STATEMENT -/
theorem proved : Rows.ParserChainsSaid := over
end Go.Proofs.Ytkjbfomokdjbnaa.parserChains
