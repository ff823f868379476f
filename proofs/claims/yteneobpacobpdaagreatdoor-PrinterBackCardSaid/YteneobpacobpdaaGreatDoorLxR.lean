/-
  Walks of the lexer's skip and next: for every string shorter than 2^47 and every place in it.
-/
import Derived.Test.YteneobpacobpdaaGreatDoorHy
import Derived.Test.YteneobpacobpdaaGreatDoorLxA
import Derived.Test.YteneobpacobpdaaGreatDoorMem
import Derived.Test.YteneobpacobpdaaGreatDoorLxPlain
import Derived.Deep.QuietTactic
import Derived.BigQuiet
set_option linter.unusedSimpArgs false
set_option linter.unusedVariables false
set_option maxRecDepth 100000
set_option maxHeartbeats 16000000
namespace Go.Proofs.YteneobpacobpdaaGreatDoor
open Go.RowKit Lx
theorem bl_yes (c : UInt8) (h : bl c = true) : (c.toNat : Int) = 9 ∨ (c.toNat : Int) = 10 ∨ (c.toNat : Int) = 13 ∨ (c.toNat : Int) = 32 := by
 unfold bl at h; simp at h; omega
theorem skip_any (s : ByteArray) (w : World) (hs : s.size ≤ 140737488351232) (k : Nat) (hk : k ≤ s.size) :
  Calls Tryz.prog 35 #[.string s, .int .i64 (k : Int)] w fun e w' => e = .returned (.int .i64 ((k + run bl (s.data.toList.drop k) : Nat) : Int)) ∧ w = w' := by
 obtain ⟨R, hR⟩ : ∃ R : Nat, R = k + run bl (s.data.toList.drop k) := ⟨_, rfl⟩
 rw [← hR]
 have HR := h_ hR
 clear hR
 go_enter Tryz.func35, Tryz.ntmps35
 go_wp2
 go_loop [1] (fun a => ∃ i : Nat, k ≤ i ∧ i ≤ s.size ∧ a = .int .i64 i ∧ ∀ j (h : j < i) (h' : j < s.size), k ≤ j → bl s[j] = true) (fun a => s.size - (intOf a).toNat)
 case atStart => exact ⟨k, Nat.le_refl _, hk, rfl, fun j h _ h2 => by omega⟩
 case round =>
  obtain ⟨i, hki, hi, rfl, hall⟩ := hrel
  have Hall := h_ hall
  clear hall
  by_cases hlt : i < s.size
  ·by_cases hb : bl s[i] = true
   ·have H4 := h_ (bl_yes _ hb)
    have Hb := h_ hb
    clear hb
    go_wp2
    all_goals
     first
     |(go_round
       case rel =>
        refine ⟨i + 1, by omega, by omega, by go_num, fun j h h' h2 => ?_⟩
        rcases Nat.lt_or_eq_of_le (Nat.le_of_lt_succ h) with hj | hj
        ·exact Hall.out j hj h' h2
        ·subst hj; exact Hb.out
       case measure => simp [intOf]; omega)
     |(exfalso
       have h4 := H4.out
       simp only [beq_iff_eq, beq_eq_false_iff_ne, ne_eq] at *
       omega)
   ·have hb' : bl s[i] = false := by simpa using hb
    have hn : (((s[i].toNat : Int) == 9) = false ∧ ((s[i].toNat : Int) == 10) = false) ∧ ((s[i].toNat : Int) == 13) = false ∧ ((s[i].toNat : Int) == 32) = false := by
     unfold bl at hb'; simp at hb' ⊢; omega
    obtain ⟨⟨n1, n2⟩, n3, n4⟩ := hn
    have Hb := h_ hb'
    clear hb hb'
    go_wp2
    go_ret
    exact ⟨ret_int (by rw [HR.out, run_at bl s k i hki hi Hall.out (fun _ => Hb.out)]; omega), rfl⟩
  ·have e : i = s.size := by omega
   have He := h_ e
   clear e
   go_wp2
   go_ret
   exact ⟨ret_int (by rw [HR.out, run_at bl s k i hki hi Hall.out (fun h => absurd h hlt)]; omega), rfl⟩
def nextV (l : Bytes) (k : Nat) : Value :=
 if (next (l.drop k)).2.2 = 0 then .tuple #[.agg #[.int .i64 (next (l.drop k)).1, .string (bs ((l.drop k).take (next (l.drop k)).2.1)), .int .i64 k], .int .i64 0]
 else .tuple #[.agg #[.int .i64 0, .string (bs []), .int .i64 0], .int .i64 (next (l.drop k)).2.2]
theorem nextV_ok (l : Bytes) (k kd n : Nat) (h : next (l.drop k) = (kd, n, 0)) : nextV l k = .tuple #[.agg #[.int .i64 kd, .string (bs ((l.drop k).take n)), .int .i64 k], .int .i64 0] := by
 unfold nextV; rw [h]; rfl
theorem nextV_err (l : Bytes) (k e : Nat) (he : e ≠ 0) (h : next (l.drop k) = (0, 0, e)) : nextV l k = .tuple #[.agg #[.int .i64 0, .string (bs []), .int .i64 0], .int .i64 e] := by
 unfold nextV; rw [h]; simp [he]
theorem next_dig1 (c : UInt8) (x : Bytes) (h : dig c = true) (h1 : c.toNat = 48) (h2 : 1 < run dig (c :: x)) : next (c :: x) = (0, 0, 6) := by
 unfold next; simp [h, h1, h2]
theorem next_dig2 (c : UInt8) (x : Bytes) (h : dig c = true) (h1 : ¬ (c.toNat = 48 ∧ 1 < run dig (c :: x))) (h2 : 40 < run dig (c :: x)) : next (c :: x) = (0, 0, 8) := by
 unfold next; dsimp only; rw [if_pos h, if_neg h1, if_pos h2]
theorem next_dig3 (c : UInt8) (x : Bytes) (h : dig c = true) (h1 : ¬ (c.toNat = 48 ∧ 1 < run dig (c :: x))) (h2 : ¬ 40 < run dig (c :: x)) : next (c :: x) = (1, run dig (c :: x), 0) := by
 unfold next; dsimp only; rw [if_pos h, if_neg h1, if_neg h2]
theorem next_let1 (c : UInt8) (x : Bytes) (h0 : ¬ dig c = true) (h : ltr c = true) (h2 : 16 < run aln (c :: x)) : next (c :: x) = (0, 0, 8) := by
 unfold next; dsimp only; rw [if_neg h0, if_pos h, if_pos h2]
theorem next_let2 (c : UInt8) (x : Bytes) (h0 : ¬ dig c = true) (h : ltr c = true) (h2 : ¬ 16 < run aln (c :: x)) : next (c :: x) = ((if isWord ((c :: x).take (run aln (c :: x))) then 3 else 2), run aln (c :: x), 0) := by
 unfold next; dsimp only; rw [if_neg h0, if_pos h, if_neg h2]
theorem next_sig1 (c : UInt8) (x : Bytes) (h0 : ¬ dig c = true) (h : ¬ ltr c = true) (h2 : 0 < signLen (c :: x)) : next (c :: x) = (4, signLen (c :: x), 0) := by
 unfold next; dsimp only; rw [if_neg h0, if_neg h, if_pos h2]
theorem next_sig2 (c : UInt8) (x : Bytes) (h0 : ¬ dig c = true) (h : ¬ ltr c = true) (h2 : ¬ 0 < signLen (c :: x)) : next (c :: x) = (0, 0, 6) := by
 unfold next; dsimp only; rw [if_neg h0, if_neg h, if_neg h2]
theorem nextE (s : ByteArray) (k e : Nat) (he : e ≠ 0) (h : next (s.data.toList.drop k) = (0, 0, e)) :
  Ending.returned (.tuple #[.agg #[.int .i64 0, .string ⟨#[]⟩, .int .i64 0], .int .i64 e]) = .returned (nextV s.data.toList k) := by
 rw [nextV_err _ _ e he h]; rfl
theorem nextO (s : ByteArray) (k i kd : Nat) (h : next (s.data.toList.drop k) = (kd, i - k, 0)) :
  Ending.returned (.tuple #[.agg #[.int .i64 kd, .string (s.extract k i), .int .i64 k], .int .i64 0]) = .returned (nextV s.data.toList k) := by
 rw [nextV_ok _ _ kd _ h, eq_bs (extract_drop s k i)]
theorem next_dig (s : ByteArray) (w : World) (hs : s.size ≤ 140737488351232) (k : Nat) (hk : k < s.size) (hd : dig s[k] = true) :
  Calls Tryz.prog 36 #[.string s, .int .i64 (k : Int)] w fun e w' => e = .returned (nextV s.data.toList k) ∧ Below w.heap.size w w' := by
 have hl := h_ (drop_cons s k hk)
 have Hd := h_ hd
 clear hd
 go_enter Tryz.func36, Tryz.ntmps36
 go_wp2_with (go_at_call 63; refine (isDigit_yes _ _ Hd.out).mono ?_; rintro e w' ⟨rfl, rfl⟩)
 go_loop [6] (fun a => ∃ i : Nat, k ≤ i ∧ i ≤ s.size ∧ a = .int .i64 i ∧ ∀ j (h : j < i) (h' : j < s.size), k ≤ j → dig s[j] = true) (fun a => s.size - (intOf a).toNat)
 case atStart => exact ⟨k, Nat.le_refl _, by omega, rfl, fun j h _ h2 => by omega⟩
 case round =>
  obtain ⟨i, hki, hi, rfl, hall⟩ := hrel
  have Hall := h_ hall
  clear hall
  have three : (∃ h : i < s.size, dig s[i] = true) ∨ (∃ h : i < s.size, dig s[i] = false) ∨ s.size ≤ i := by
   by_cases hlt : i < s.size
   ·by_cases hb : dig s[i] = true
    ·exact .inl ⟨hlt, hb⟩
    ·exact .inr (.inl ⟨hlt, by simpa using hb⟩)
   ·exact .inr (.inr (by omega))
  rcases three with ⟨hlt, hb⟩ | ⟨hlt, hb⟩ | hge
  ·have Hb := h_ hb
   clear hb
   go_wp2_with (go_at_call 63; refine (isDigit_yes _ _ Hb.out).mono ?_; rintro e w' ⟨rfl, rfl⟩)
   go_round
   case rel =>
    refine ⟨i + 1, by omega, by omega, by go_num, fun j h h' h2 => ?_⟩
    rcases Nat.lt_or_eq_of_le (Nat.le_of_lt_succ h) with hj | hj
    ·exact Hall.out j hj h' h2
    ·subst hj; exact Hb.out
   case measure => simp [intOf]; omega
  ·have Hb := h_ hb
   have hr := run_at dig s k i hki hi Hall.out (fun _ => Hb.out)
   rw [hl.out] at hr
   have Hr := h_ hr
   clear hr hb
   go_wp2_with (go_at_call 63; refine (isDigit_no _ _ Hb.out).mono ?_; rintro e w' ⟨rfl, rfl⟩)
   all_goals first
    |(have g : (s[k].toNat : Int) = 48 ∧ 1 < (i : Int) - k := by omega
      exact bodyPost_ret (v := .tuple #[.agg #[.int .i64 0, .string ⟨#[]⟩, .int .i64 0], .int .i64 6]) (by simp [results, Tryz.results36, go_sem]) rfl ⟨nextE s k 6 (by omega) (by rw [hl.out]; exact next_dig1 _ _ Hd.out (by omega) (by rw [Hr.out]; omega)), (Below.refl _ _).alloc (Nat.le_refl _) _⟩)
    |(have g : 40 < (i : Int) - k := by omega
      exact bodyPost_ret (v := .tuple #[.agg #[.int .i64 0, .string ⟨#[]⟩, .int .i64 0], .int .i64 8]) (by simp [results, Tryz.results36, go_sem]) rfl ⟨nextE s k 8 (by omega) (by rw [hl.out]; exact next_dig2 _ _ Hd.out (by rw [Hr.out]; omega) (by rw [Hr.out]; omega)), (Below.refl _ _).alloc (Nat.le_refl _) _⟩)
    | exact bodyPost_ret (v := .tuple #[.agg #[.int .i64 1, .string (s.extract k i), .int .i64 k], .int .i64 0]) (by simp [results, Tryz.results36, go_sem]) rfl ⟨nextO s k i 1 (by rw [hl.out, next_dig3 _ _ Hd.out (by rw [Hr.out]; omega) (by rw [Hr.out]; omega), Hr.out]), (Below.refl _ _).alloc (Nat.le_refl _) _⟩
  ·have hr := run_at dig s k i hki hi Hall.out (fun h => absurd h (by omega))
   rw [hl.out] at hr
   have Hr := h_ hr
   clear hr
   go_wp2
   all_goals first
    |(have g : (s[k].toNat : Int) = 48 ∧ 1 < (i : Int) - k := by omega
      exact bodyPost_ret (v := .tuple #[.agg #[.int .i64 0, .string ⟨#[]⟩, .int .i64 0], .int .i64 6]) (by simp [results, Tryz.results36, go_sem]) rfl ⟨nextE s k 6 (by omega) (by rw [hl.out]; exact next_dig1 _ _ Hd.out (by omega) (by rw [Hr.out]; omega)), (Below.refl _ _).alloc (Nat.le_refl _) _⟩)
    |(have g : 40 < (i : Int) - k := by omega
      exact bodyPost_ret (v := .tuple #[.agg #[.int .i64 0, .string ⟨#[]⟩, .int .i64 0], .int .i64 8]) (by simp [results, Tryz.results36, go_sem]) rfl ⟨nextE s k 8 (by omega) (by rw [hl.out]; exact next_dig2 _ _ Hd.out (by rw [Hr.out]; omega) (by rw [Hr.out]; omega)), (Below.refl _ _).alloc (Nat.le_refl _) _⟩)
    | exact bodyPost_ret (v := .tuple #[.agg #[.int .i64 1, .string (s.extract k i), .int .i64 k], .int .i64 0]) (by simp [results, Tryz.results36, go_sem]) rfl ⟨nextO s k i 1 (by rw [hl.out, next_dig3 _ _ Hd.out (by rw [Hr.out]; omega) (by rw [Hr.out]; omega), Hr.out]), (Below.refl _ _).alloc (Nat.le_refl _) _⟩
theorem aln_cases (c : UInt8) : (ltr c = true ∧ aln c = true) ∨ (ltr c = false ∧ dig c = true ∧ aln c = true) ∨ (ltr c = false ∧ dig c = false ∧ aln c = false) := by
 unfold aln
 cases ltr c <;> cases dig c <;> simp
theorem next_let (s : ByteArray) (w : World) (hs : s.size ≤ 140737488351232) (k : Nat) (hk : k < s.size) (hd : dig s[k] = false) (ha : ltr s[k] = true) :
  Calls Tryz.prog 36 #[.string s, .int .i64 (k : Int)] w fun e w' => e = .returned (nextV s.data.toList k) ∧ Below w.heap.size w w' := by
 have hl := h_ (drop_cons s k hk)
 have Hd := h_ hd
 have Ha := h_ ha
 clear hd ha
 go_enter Tryz.func36, Tryz.ntmps36
 go_wp2_with (first | (go_at_call 63; refine (isDigit_no _ _ Hd.out).mono ?_; rintro e w' ⟨rfl, rfl⟩) | (go_at_call 64; refine (isLetter_yes _ _ Ha.out).mono ?_; rintro e w' ⟨rfl, rfl⟩))
 go_loop [6] (fun a => ∃ i : Nat, k ≤ i ∧ i ≤ s.size ∧ a = .int .i64 i ∧ ∀ j (h : j < i) (h' : j < s.size), k ≤ j → aln s[j] = true) (fun a => s.size - (intOf a).toNat)
 case atStart => exact ⟨k, Nat.le_refl _, by omega, rfl, fun j h _ h2 => by omega⟩
 case round =>
  obtain ⟨i, hki, hi, rfl, hall⟩ := hrel
  have Hall := h_ hall
  clear hall
  have four : (∃ h : i < s.size, ltr s[i] = true ∧ aln s[i] = true) ∨ (∃ h : i < s.size, ltr s[i] = false ∧ dig s[i] = true ∧ aln s[i] = true) ∨ (∃ h : i < s.size, ltr s[i] = false ∧ dig s[i] = false ∧ aln s[i] = false) ∨ s.size ≤ i := by
   by_cases hlt : i < s.size
   ·rcases aln_cases s[i] with h | h | h
    ·exact .inl ⟨hlt, h⟩
    ·exact .inr (.inl ⟨hlt, h⟩)
    ·exact .inr (.inr (.inl ⟨hlt, h⟩))
   ·exact .inr (.inr (.inr (by omega)))
  rcases four with ⟨hlt, hb, hc⟩ | ⟨hlt, hb, he, hc⟩ | ⟨hlt, hb, he, hc⟩ | hge
  ·have Hb := h_ hb
   have Hc := h_ hc
   clear hb hc
   go_wp2_with (go_at_call 64; refine (isLetter_yes _ _ Hb.out).mono ?_; rintro e w' ⟨rfl, rfl⟩)
   go_round
   case rel =>
    refine ⟨i + 1, by omega, by omega, by go_num, fun j h h' h2 => ?_⟩
    rcases Nat.lt_or_eq_of_le (Nat.le_of_lt_succ h) with hj | hj
    ·exact Hall.out j hj h' h2
    ·subst hj; exact Hc.out
   case measure => simp [intOf]; omega
  ·have Hb := h_ hb
   have Hc := h_ hc
   have He := h_ he
   clear hb hc he
   go_wp2_with (first | (go_at_call 64; refine (isLetter_no _ _ Hb.out).mono ?_; rintro e w' ⟨rfl, rfl⟩) | (go_at_call 63; refine (isDigit_yes _ _ He.out).mono ?_; rintro e w' ⟨rfl, rfl⟩))
   go_round
   case rel =>
    refine ⟨i + 1, by omega, by omega, by go_num, fun j h h' h2 => ?_⟩
    rcases Nat.lt_or_eq_of_le (Nat.le_of_lt_succ h) with hj | hj
    ·exact Hall.out j hj h' h2
    ·subst hj; exact Hc.out
   case measure => simp [intOf]; omega
  ·have Hb := h_ hb
   have He := h_ he
   have hr := run_at aln s k i hki hi Hall.out (fun _ => hc)
   rw [hl.out] at hr
   have Hr := h_ hr
   clear hr hb hc he
   go_wp2_with (first | (go_at_call 64; refine (isLetter_no _ _ Hb.out).mono ?_; rintro e w' ⟨rfl, rfl⟩) | (go_at_call 63; refine (isDigit_no _ _ He.out).mono ?_; rintro e w' ⟨rfl, rfl⟩) | (go_at_call 65; refine (isWord_any _ _).mono ?_; rintro e w' ⟨rfl, rfl⟩))
   all_goals first
    |(have g : 16 < (i : Int) - k := by omega
      exact bodyPost_ret (v := .tuple #[.agg #[.int .i64 0, .string ⟨#[]⟩, .int .i64 0], .int .i64 8]) (by simp [results, Tryz.results36, go_sem]) rfl ⟨nextE s k 8 (by omega) (by rw [hl.out]; exact next_let1 _ _ (by rw [Hd.out]; decide) Ha.out (by rw [Hr.out]; omega)), (Below.refl _ _).alloc (Nat.le_refl _) _⟩)
    |(have g : isWord (List.take (i - k) (List.drop k s.data.toList)) = true := by assumption
      exact bodyPost_ret (v := .tuple #[.agg #[.int .i64 3, .string (s.extract k i), .int .i64 k], .int .i64 0]) (by simp [results, Tryz.results36, go_sem]) rfl ⟨nextO s k i 3 (by rw [hl.out, next_let2 _ _ (by rw [Hd.out]; decide) Ha.out (by rw [Hr.out]; omega), Hr.out, ← hl.out, if_pos g]), (Below.refl _ _).alloc (Nat.le_refl _) _⟩)
    |(have g : isWord (List.take (i - k) (List.drop k s.data.toList)) = false := by assumption
      exact bodyPost_ret (v := .tuple #[.agg #[.int .i64 2, .string (s.extract k i), .int .i64 k], .int .i64 0]) (by simp [results, Tryz.results36, go_sem]) rfl ⟨nextO s k i 2 (by rw [hl.out, next_let2 _ _ (by rw [Hd.out]; decide) Ha.out (by rw [Hr.out]; omega), Hr.out, ← hl.out, g]; rfl), (Below.refl _ _).alloc (Nat.le_refl _) _⟩)
  ·have hr := run_at aln s k i hki hi Hall.out (fun h => absurd h (by omega))
   rw [hl.out] at hr
   have Hr := h_ hr
   clear hr
   go_wp2_with (go_at_call 65; refine (isWord_any _ _).mono ?_; rintro e w' ⟨rfl, rfl⟩)
   all_goals first
    |(have g : 16 < (i : Int) - k := by omega
      exact bodyPost_ret (v := .tuple #[.agg #[.int .i64 0, .string ⟨#[]⟩, .int .i64 0], .int .i64 8]) (by simp [results, Tryz.results36, go_sem]) rfl ⟨nextE s k 8 (by omega) (by rw [hl.out]; exact next_let1 _ _ (by rw [Hd.out]; decide) Ha.out (by rw [Hr.out]; omega)), (Below.refl _ _).alloc (Nat.le_refl _) _⟩)
    |(have g : isWord (List.take (i - k) (List.drop k s.data.toList)) = true := by assumption
      exact bodyPost_ret (v := .tuple #[.agg #[.int .i64 3, .string (s.extract k i), .int .i64 k], .int .i64 0]) (by simp [results, Tryz.results36, go_sem]) rfl ⟨nextO s k i 3 (by rw [hl.out, next_let2 _ _ (by rw [Hd.out]; decide) Ha.out (by rw [Hr.out]; omega), Hr.out, ← hl.out, if_pos g]), (Below.refl _ _).alloc (Nat.le_refl _) _⟩)
    |(have g : isWord (List.take (i - k) (List.drop k s.data.toList)) = false := by assumption
      exact bodyPost_ret (v := .tuple #[.agg #[.int .i64 2, .string (s.extract k i), .int .i64 k], .int .i64 0]) (by simp [results, Tryz.results36, go_sem]) rfl ⟨nextO s k i 2 (by rw [hl.out, next_let2 _ _ (by rw [Hd.out]; decide) Ha.out (by rw [Hr.out]; omega), Hr.out, ← hl.out, g]; rfl), (Below.refl _ _).alloc (Nat.le_refl _) _⟩)
theorem next_sig (s : ByteArray) (w : World) (hs : s.size ≤ 140737488351232) (k : Nat) (hk : k < s.size) (hd : dig s[k] = false) (ha : ltr s[k] = false) :
  Calls Tryz.prog 36 #[.string s, .int .i64 (k : Int)] w fun e w' => e = .returned (nextV s.data.toList k) ∧ Below w.heap.size w w' := by
 obtain ⟨l, hL⟩ : ∃ l, l = s.data.toList.drop k := ⟨_, rfl⟩
 obtain ⟨n, hN⟩ : ∃ n, n = signLen l := ⟨_, rfl⟩
 have hn : (s.extract k s.size).data.toList = l := by
  rw [hL, extract_drop]; exact List.take_of_length_le (by rw [List.length_drop, size_len]; omega)
 have hle : n ≤ s.size - k := by
  rw [hN, hL]; have := signLen_le (s.data.toList.drop k); rwa [List.length_drop, size_len] at this
 have hc : l = s[k] :: s.data.toList.drop (k + 1) := by rw [hL, drop_cons s k hk]
 have h1 : (s.extract k s.size).size ≤ 140737488351232 ∧ 0 < (s.extract k s.size).size := by
  rw [← size_len, hn, hL, List.length_drop, size_len]; omega
 have hsl := signLength_any (s.extract k s.size) (w.alloc (.cells #[.int .i64 0, .string ⟨#[]⟩, .int .i64 0] 86)) h1.1 h1.2
 rw [hn, ← hN] at hsl
 have Hd := h_ hd
 have Ha := h_ ha
 have HL := h_ hL
 have HN := h_ hN
 have HC := h_ hc
 have HS := h_ hsl
 clear hd ha hn hL hN hc hsl h1
 go_enter Tryz.func36, Tryz.ntmps36
 go_wp2_with (first | (go_at_call 63; refine (isDigit_no _ _ Hd.out).mono ?_; rintro e w' ⟨rfl, rfl⟩) | (go_at_call 64; refine (isLetter_no _ _ Ha.out).mono ?_; rintro e w' ⟨rfl, rfl⟩) | (go_at_call 66; refine HS.out.mono ?_; rintro e w' ⟨rfl, rfl⟩))
 ·have g : 0 < n := by omega
  exact bodyPost_ret (v := .tuple #[.agg #[.int .i64 4, .string (s.extract k (k + n)), .int .i64 k], .int .i64 0]) (by simp [results, Tryz.results36, go_sem]) rfl ⟨nextO s k (k + n) 4 (by rw [← HL.out, HC.out, next_sig1 _ _ (by rw [Hd.out]; decide) (by rw [Ha.out]; decide) (by rw [← HC.out, ← HN.out]; exact g), ← HC.out, ← HN.out, Nat.add_sub_cancel_left]), (Below.refl _ _).alloc (Nat.le_refl _) _⟩
 ·exact bodyPost_ret (v := .tuple #[.agg #[.int .i64 0, .string ⟨#[]⟩, .int .i64 0], .int .i64 6]) (by simp [results, Tryz.results36, go_sem]) rfl ⟨nextE s k 6 (by omega) (by rw [← HL.out, HC.out]; exact next_sig2 _ _ (by rw [Hd.out]; decide) (by rw [Ha.out]; decide) (by rw [← HC.out, ← HN.out]; omega)), (Below.refl _ _).alloc (Nat.le_refl _) _⟩
theorem next_any (s : ByteArray) (w : World) (hs : s.size ≤ 140737488351232) (k : Nat) (hk : k < s.size):
  Calls Tryz.prog 36 #[.string s, .int .i64 (k : Int)] w fun e w' => e = .returned (nextV s.data.toList k) ∧ Below w.heap.size w w' := by
 by_cases hd : dig s[k] = true
 ·exact next_dig s w hs k hk hd
 ·have hd' : dig s[k] = false := by simpa using hd
  by_cases ha : ltr s[k] = true
  ·exact next_let s w hs k hk hd' ha
  ·exact next_sig s w hs k hk hd' (by simpa using ha)
end Go.Proofs.YteneobpacobpdaaGreatDoor
namespace Go.Proofs.YteneobpacobpdaaGreatDoor
open Go.RowKit Lx
def tokC (t : Tok) : List Value := [.int .i64 t.kind, .string (bs t.text), .int .i64 t.pos]
def tokCells (l : List Tok) : List Value := l.flatMap tokC
theorem tokCells_snoc (l : List Tok) (t : Tok) : tokCells (l ++ [t]) = tokCells l ++ tokC t := by simp [tokCells]
theorem infoTok : (Tryz.prog.info? 86).map (fun i => (i.zero, i.size, i.bytes)) = some (some (.agg #[.int .i64 0, .string ⟨#[]⟩, .int .i64 0]), 3, 32) := by kernel_rfl
def LexPost (s : ByteArray) (w : World) (e : Ending) (w' : World) : Prop :=
 ∃ v toks p er, e = .returned (.tuple #[v, .int .i64 ((p : Nat) : Int), .int .i64 ((er : Nat) : Int)]) ∧ lex s.data.toList = (toks, p, er) ∧ w'.ownsRow w.heap.size 86 3 v toks.length (tokCells toks) ∧ Below w.heap.size w w'
theorem lexPost_long (s : ByteArray) (w : World) (h : 4000 < s.size) : LexPost s w (.returned (.tuple #[.slice none 0 0, .int .i64 4000, .int .i64 8])) w :=
 ⟨_, [], 4000, 8, rfl, by unfold lex; rw [if_pos (by rw [size_len]; exact h)], World.ownsRow_nil _ _ _ _, Below.refl _ _⟩
theorem lexPost_err (s : ByteArray) (w w' : World) (hs : s.size ≤ 4000) (i e : Nat) (toks : List Tok) (hb : before s.data.toList = (toks, i, e)) (he : e ≠ 0) (hbel : Below w.heap.size w w') :
  LexPost s w (.returned (.tuple #[.slice none 0 0, .int .i64 i, .int .i64 e])) w' :=
 ⟨_, [], i, e, rfl, by unfold lex; rw [if_neg (by rw [size_len]; omega), hb, if_neg he], World.ownsRow_nil _ _ _ _, hbel⟩
theorem lexPost_ok (s : ByteArray) (w w' : World) (hs : s.size ≤ 4000) (v : Value) (toks : List Tok) (hb : before s.data.toList = (toks, 0, 0)) (hown : w'.ownsRow w.heap.size 86 3 v toks.length (tokCells toks)) (hbel : Below w.heap.size w w') :
  LexPost s w (.returned (.tuple #[v, .int .i64 0, .int .i64 0])) w' :=
 ⟨_, toks, 0, 0, rfl, by unfold lex; rw [if_neg (by rw [size_len]; omega), hb, if_pos rfl], hown, hbel⟩
theorem skip_at (s : ByteArray) (a : Int) (w : World) (k R : Nat) (ha : a = (k : Int)) (hs : s.size ≤ 140737488351232) (hk : k ≤ s.size) (hR : R = k + run bl (s.data.toList.drop k)) :
  Calls Tryz.prog 35 #[.string s, .int .i64 a] w fun e w' => e = .returned (.int .i64 (R : Int)) ∧ w = w' := by
 subst ha; subst hR; exact skip_any s w hs k hk
def LexRel (s : ByteArray) (i : Nat) (toks : List Tok) : Prop :=
 before s.data.toList = (toks ++ (lexA i (s.data.toList.drop i)).1, (lexA i (s.data.toList.drop i)).2)
theorem lexRel_start (s : ByteArray) : LexRel s (0 + run bl (s.data.toList.drop 0)) [] := by
 unfold LexRel
 rw [List.drop_zero, Nat.zero_add, before_eq, List.nil_append]
theorem lexRel_ok (s : ByteArray) (i : Nat) (toks : List Tok) (hi : i < s.size) (kd n : Nat) (h : next (s.data.toList.drop i) = (kd, n, 0)) (hr : LexRel s i toks) :
  LexRel s (i + n + run bl (s.data.toList.drop (i + n))) (toks ++ [⟨kd, (s.data.toList.drop i).take n, i⟩]) := by
 unfold LexRel at *
 have hne : s.data.toList.drop i ≠ [] := by rw [drop_cons s i hi]; simp
 rw [hr, lexA_ok i _ hne (by rw [h]), h, List.drop_drop, List.drop_drop, List.append_assoc]
 rfl
theorem lexRel_err (s : ByteArray) (i : Nat) (toks : List Tok) (hi : i < s.size) (e : Nat) (he : e ≠ 0) (h : next (s.data.toList.drop i) = (0, 0, e)) (hr : LexRel s i toks) :
  before s.data.toList = (toks, i, e) := by
 unfold LexRel at *
 have hne : s.data.toList.drop i ≠ [] := by rw [drop_cons s i hi]; simp
 rw [hr, lexA_err i _ hne (by rw [h]; exact he), h, List.append_nil]
theorem lexRel_end (s : ByteArray) (i : Nat) (toks : List Tok) (hi : s.size ≤ i) (hr : LexRel s i toks) : before s.data.toList = (toks, 0, 0) := by
 unfold LexRel at *
 have e : s.data.toList.drop i = [] := List.drop_eq_nil_of_le (by rw [size_len]; exact hi)
 rw [hr, e, lexA_nil, List.append_nil]
theorem next_at (s : ByteArray) (hs : s.size ≤ 140737488351232) (i : Nat) (hi : i < s.size) :
  (∃ (kd : Nat) (tx : ByteArray), 1 ≤ tx.size ∧ i + tx.size ≤ s.size ∧ next (s.data.toList.drop i) = (kd, tx.size, 0) ∧ tx = bs ((s.data.toList.drop i).take tx.size) ∧
   ∀ W, Calls Tryz.prog 36 #[.string s, .int .i64 (i : Int)] W fun e w' => e = .returned (.tuple #[.agg #[.int .i64 kd, .string tx, .int .i64 i], .int .i64 0]) ∧ Below W.heap.size W w') ∨
  (∃ er : Nat, er ≠ 0 ∧ next (s.data.toList.drop i) = (0, 0, er) ∧
   ∀ W, Calls Tryz.prog 36 #[.string s, .int .i64 (i : Int)] W fun e w' => e = .returned (.tuple #[.agg #[.int .i64 0, .string (bs []), .int .i64 0], .int .i64 er]) ∧ Below W.heap.size W w') := by
 by_cases h : (next (s.data.toList.drop i)).2.2 = 0
 ·obtain ⟨h1, h2, _⟩ := next_ok _ h
  rw [List.length_drop, size_len] at h2
  have hsz : (bs ((s.data.toList.drop i).take (next (s.data.toList.drop i)).2.1)).size = (next (s.data.toList.drop i)).2.1 := by
   rw [bs_size, List.length_take, List.length_drop, size_len]; omega
  refine .inl ⟨(next (s.data.toList.drop i)).1, bs ((s.data.toList.drop i).take (next (s.data.toList.drop i)).2.1), by omega, by omega, ?_, by rw [hsz], fun W => ?_⟩
  ·rw [hsz, ← h]
  ·have := next_any s W hs i hi
   unfold nextV at this
   rw [if_pos h] at this
   exact this
 ·have he : next (s.data.toList.drop i) = (0, 0, (next (s.data.toList.drop i)).2.2) := by
   have : ∀ r, (next r).2.2 ≠ 0 → next r = (0, 0, (next r).2.2) := by
    intro r
    match r with
    | [] => intro _; rfl
    | c :: x =>
     unfold next
     dsimp only
     split
     ·split
      ·intro _; rfl
      ·split
       ·intro _; rfl
       ·intro hh; exact absurd rfl hh
     ·split
      ·split
       ·intro _; rfl
       ·intro hh; exact absurd rfl hh
      ·split
       ·intro hh; exact absurd rfl hh
       ·intro _; rfl
   exact this _ h
  refine .inr ⟨(next (s.data.toList.drop i)).2.2, h, he, fun W => ?_⟩
  have := next_any s W hs i hi
  unfold nextV at this
  rw [if_neg h] at this
  exact this
theorem lex_any (s : ByteArray) (w : World) (hs : s.size ≤ 140737488351232) :
  Calls Tryz.prog 13 #[.string s] w (LexPost s w) := by
 by_cases h4 : 4000 < s.size
 ·have H := h_ (lexPost_long s w h4)
  go_enter Tryz.func13, Tryz.ntmps13
  go_wp2
  go_ret3
  exact H.out
 ·have hs4 : s.size ≤ 4000 := by omega
  obtain ⟨i0, hi0, hz0, hz1, hz2⟩ := info_parts infoTok
  obtain ⟨k0, hk0⟩ : ∃ k, k = 0 + run bl (s.data.toList.drop 0) := ⟨_, rfl⟩
  have hk1 : k0 ≤ s.size := by rw [hk0, List.drop_zero]; have := run_le bl s.data.toList; rw [size_len] at this; omega
  have HK := h_ hk0
  clear hk0
  go_enter Tryz.func13, Tryz.ntmps13
  go_wp2_with (go_at_call 35; refine (skip_at s _ _ 0 k0 rfl hs (by omega) HK.out).mono ?_; rintro e w' ⟨rfl, rfl⟩)
  go_loopw [5, 6] (fun v a wr => ∃ (i : Nat) (toks : List Tok), i ≤ s.size ∧ a = .int .i64 i ∧ wr.ownsRow w.heap.size 86 3 v toks.length (tokCells toks) ∧ Below w.heap.size w wr ∧ toks.length ≤ i ∧ Hid (LexRel s i toks)) (fun _ a _ => s.size - (intOf a).toNat)
  case atStart => exact ⟨k0, [], hk1, rfl, World.ownsRow_nil _ _ _ _, Below.refl _ _, Nat.zero_le _, by rw [HK.out]; exact lexRel_start s⟩
  case round =>
   obtain ⟨i, toks, hi, rfl, hown, hbel, hlen, hrel⟩ := hrel
   by_cases hlt : i < s.size
   ·rcases next_at s hs i hlt with ⟨kd, tx, h1, h2, h3, h4', h5⟩ | ⟨er, h1, h2, h3⟩
    ·obtain ⟨j, hj⟩ : ∃ j, j = i + tx.size + run bl (s.data.toList.drop (i + tx.size)) := ⟨_, rfl⟩
     have hj1 : i < j ∧ j ≤ s.size := by
      have := run_le bl (s.data.toList.drop (i + tx.size)); rw [List.length_drop, size_len] at this; omega
     have HR := h_ (lexRel_ok s i toks hlt kd tx.size h3 hrel.out)
     have HJ := h_ hj
     have H3 := h_ h3
     have H4 := h_ h4'
     have H5 := h_ h5
     clear h3 h4' h5 hj
     have hown2 : ∀ (w1 : World), Below wr.heap.size wr w1 → ∀ o1 o2, ((w1.alloc o1).alloc o2).ownsRow w.heap.size 86 3 _ toks.length (tokCells toks) := fun w1 hb o1 o2 => ((own_below hown hb).alloc o1).alloc o2
     go_wp2_with (first
      |(go_at_call 36; refine (H5.out _).mono ?_; rintro e w1 ⟨rfl, hb1⟩)
      |(at_builtin; refine wpList_append_own _ rfl (.tmp 28) (.tmp 30) 54 rfl w.heap.size 86 i0 _ 3 32 Tryz.underlying54 hi0 hz0 hz1 hz2 rfl (by decide) _ _ _ rfl (hown2 _ hb1 _ _) ⟨w1.heap.size + 1, 0, none⟩ 1 1 [.int .i64 kd, .string tx, .int .i64 i] rfl rfl ?c1 ?c2 ?c3 ?c4 ?c5 ?_; rotate_right; intro v2 w2 hown3 hg2 _; have hcell : w2.cell? ⟨w1.heap.size, 1, none⟩ = some (.string tx) := (cell_grown (own_below hown hb1) hg2 (Nat.le_refl _) ((World.cell?_alloc_lt _ _ _ (by simp)).trans (cell_new _ _ _ _))))
      |(go_at_call 35; refine (skip_at s _ _ (i + tx.size) j (by omega) hs (by omega) HJ.out).mono ?_; rintro e w' ⟨rfl, rfl⟩))
     case c1 => exact cells_new (w1.alloc _) _ _ _ (by simp)
     case c2 => intro u hu; simp only [List.mem_cons, List.not_mem_nil, or_false] at hu; rcases hu with rfl | rfl | rfl <;> rfl
     case c3 => unfold maxLen; omega
     case c4 => omega
     case c5 => have := hbel.size; have := hb1.size; simp; omega
     go_roundw
     case rel =>
      have htx := H4.out
      refine ⟨j, toks ++ [⟨kd, (s.data.toList.drop i).take tx.size, i⟩], by omega, rfl, ?_, ?_, by simp only [List.length_append, List.length_cons, List.length_nil]; omega, ?_⟩
      ·rw [tokCells_snoc, List.length_append]
       have e : tokC ⟨kd, (s.data.toList.drop i).take tx.size, i⟩ = [.int .i64 kd, .string tx, .int .i64 i] := by unfold tokC; dsimp only; rw [← htx]
       rw [e]
       exact hown3
      ·refine ((((hbel.trans (hb1.mono hbel.size)).alloc ?_ _).alloc ?_ _).grown hg2 ?_ (own_row_ge hown))
       ·exact Nat.le_trans hbel.size hb1.size
       ·have := hbel.size; have := hb1.size; simp; omega
       ·have := hbel.size; have := hb1.size; simp; omega
      ·rw [HJ.out]; exact HR
     case measure => simp [intOf]; omega
    ·have H2 := h_ h2
     have H3 := h_ h3
     have HB := h_ (lexRel_err s i toks hlt er h1 h2 hrel.out)
     have hne : (((er : Nat) : Int) != 0) = true := by simp; omega
     clear h2 h3 h1
     go_wp2_with (go_at_call 36; refine (H3.out _).mono ?_; rintro e w1 ⟨rfl, hb1⟩)
     go_ret3
     refine lexPost_err s w _ hs4 i er toks HB.out (by simp at hne; omega) ?_
     exact ((hbel.trans (hb1.mono hbel.size)).alloc (Nat.le_trans hbel.size hb1.size) _)
   ·have HB := h_ (lexRel_end s i toks (by omega) hrel.out)
    go_wp2
    go_ret3
    exact lexPost_ok s w _ hs4 _ toks HB.out hown hbel
end Go.Proofs.YteneobpacobpdaaGreatDoor
namespace Go.Proofs.YteneobpacobpdaaGreatDoor
open Go.RowKit Lx
end Go.Proofs.YteneobpacobpdaaGreatDoor
namespace Go.Proofs.YteneobpacobpdaaGreatDoor
open Go.RowKit Lx
end Go.Proofs.YteneobpacobpdaaGreatDoor
