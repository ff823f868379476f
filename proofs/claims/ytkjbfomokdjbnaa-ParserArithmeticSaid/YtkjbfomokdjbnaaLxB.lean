/-
  Walks of the lexer's skip and next: for every string shorter than 2^47 and every place in it.
-/
import Derived.Test.YtkjbfomokdjbnaaLxA
namespace Go.Proofs.Ytkjbfomokdjbnaa
open Go.RowKit Lx
set_option linter.unusedSimpArgs false
set_option linter.unusedVariables false

theorem bl_yes (c : UInt8) (h : bl c = true) : (c.toNat : Int) = 9 ∨ (c.toNat : Int) = 10 ∨ (c.toNat : Int) = 13 ∨ (c.toNat : Int) = 32 := by
  unfold bl at h; simp at h; omega

set_option maxHeartbeats 1000000 in
theorem skip_any (s : ByteArray) (w : World) (hs : s.size ≤ 140737488351232) (k : Nat) (hk : k ≤ s.size) :
    Calls Try.prog 25 #[.string s, .int .i64 (k : Int)] w fun e w' => e = .returned (.int .i64 ((k + run bl (s.data.toList.drop k) : Nat) : Int)) ∧ w = w' := by
  obtain ⟨R, hR⟩ : ∃ R : Nat, R = k + run bl (s.data.toList.drop k) := ⟨_, rfl⟩
  rw [← hR]
  have HR := Lib.hid hR
  clear hR
  go_enter Try.func25, Try.ntmps25
  go_wp2
  go_loop [1] (fun a => ∃ i : Nat, k ≤ i ∧ i ≤ s.size ∧ a = .int .i64 i ∧ ∀ j (h : j < i) (h' : j < s.size), k ≤ j → bl s[j] = true) (fun a => s.size - (intOf a).toNat)
  case atStart => exact ⟨k, Nat.le_refl _, hk, rfl, fun j h _ h2 => by omega⟩
  case round =>
    obtain ⟨i, hki, hi, rfl, hall⟩ := hrel
    have Hall := Lib.hid hall
    clear hall
    by_cases hlt : i < s.size
    · by_cases hb : bl s[i] = true
      · have H4 := Lib.hid (bl_yes _ hb)
        have Hb := Lib.hid hb
        clear hb
        go_wp2
        all_goals
          first
          | (go_round
             case rel =>
               refine ⟨i + 1, by omega, by omega, by go_num, fun j h h' h2 => ?_⟩
               rcases Nat.lt_or_eq_of_le (Nat.le_of_lt_succ h) with hj | hj
               · exact Hall.out j hj h' h2
               · subst hj; exact Hb.out
             case measure => simp [intOf]; omega)
          | (exfalso
             have h4 := H4.out
             simp only [beq_iff_eq, beq_eq_false_iff_ne, ne_eq] at *
             omega)
      · have hb' : bl s[i] = false := by simpa using hb
        have hn : (((s[i].toNat : Int) == 9) = false ∧ ((s[i].toNat : Int) == 10) = false) ∧ ((s[i].toNat : Int) == 13) = false ∧ ((s[i].toNat : Int) == 32) = false := by
          unfold bl at hb'; simp at hb' ⊢; omega
        obtain ⟨⟨n1, n2⟩, n3, n4⟩ := hn
        have Hb := Lib.hid hb'
        clear hb hb'
        go_wp2
        go_ret
        exact ⟨ret_int (by rw [HR.out, run_at bl s k i hki hi Hall.out (fun _ => Hb.out)]; omega), rfl⟩
    · have e : i = s.size := by omega
      have He := Lib.hid e
      clear e
      go_wp2
      go_ret
      exact ⟨ret_int (by rw [HR.out, run_at bl s k i hki hi Hall.out (fun h => absurd h hlt)]; omega), rfl⟩

/-- what next returns at place k -/
def nextV (l : Bytes) (k : Nat) : Value :=
  if (next (l.drop k)).2.2 = 0 then .tuple #[.agg #[.int .i64 (next (l.drop k)).1, .string (bs ((l.drop k).take (next (l.drop k)).2.1)), .int .i64 k], .int .i64 0]
  else .tuple #[.agg #[.int .i64 0, .string (bs []), .int .i64 0], .int .i64 (next (l.drop k)).2.2]

theorem nextV_ok (l : Bytes) (k kd n : Nat) (h : next (l.drop k) = (kd, n, 0)) : nextV l k = .tuple #[.agg #[.int .i64 kd, .string (bs ((l.drop k).take n)), .int .i64 k], .int .i64 0] := by
  unfold nextV; rw [h]; rfl
theorem nextV_err (l : Bytes) (k e : Nat) (he : e ≠ 0) (h : next (l.drop k) = (0, 0, e)) : nextV l k = .tuple #[.agg #[.int .i64 0, .string (bs []), .int .i64 0], .int .i64 e] := by
  unfold nextV; rw [h]; simp [he]

theorem next_dig1 (c : UInt8) (x : Bytes) (h : dig c = true) (h1 : c.toNat = 48) (h2 : 1 < run dig (c :: x)) : next (c :: x) = (0, 0, 6) := by
  unfold next; simp [h, h1, h2]
theorem next_dig2 (c : UInt8) (x : Bytes) (h : dig c = true) (h1 : ¬ (c.toNat = 48 ∧ 1 < run dig (c :: x))) (h2 : 40 < run dig (c :: x)) : next (c :: x) = (0, 0, 8) := by
  unfold next; dsimp only; rw [if_pos h, if_neg h1, if_pos h2]
theorem next_dig3 (c : UInt8) (x : Bytes) (h : dig c = true) (h1 : ¬ (c.toNat = 48 ∧ 1 < run dig (c :: x))) (h2 : ¬ 40 < run dig (c :: x)) : next (c :: x) = (1, run dig (c :: x), 0) := by
  unfold next; dsimp only; rw [if_pos h, if_neg h1, if_neg h2]
theorem next_let1 (c : UInt8) (x : Bytes) (h0 : ¬ dig c = true) (h : ltr c = true) (h2 : 16 < run aln (c :: x)) : next (c :: x) = (0, 0, 8) := by
  unfold next; dsimp only; rw [if_neg h0, if_pos h, if_pos h2]
theorem next_let2 (c : UInt8) (x : Bytes) (h0 : ¬ dig c = true) (h : ltr c = true) (h2 : ¬ 16 < run aln (c :: x)) : next (c :: x) = ((if isWord ((c :: x).take (run aln (c :: x))) then 3 else 2), run aln (c :: x), 0) := by
  unfold next; dsimp only; rw [if_neg h0, if_pos h, if_neg h2]
theorem next_sig1 (c : UInt8) (x : Bytes) (h0 : ¬ dig c = true) (h : ¬ ltr c = true) (h2 : 0 < signLen (c :: x)) : next (c :: x) = (4, signLen (c :: x), 0) := by
  unfold next; dsimp only; rw [if_neg h0, if_neg h, if_pos h2]
theorem next_sig2 (c : UInt8) (x : Bytes) (h0 : ¬ dig c = true) (h : ¬ ltr c = true) (h2 : ¬ 0 < signLen (c :: x)) : next (c :: x) = (0, 0, 6) := by
  unfold next; dsimp only; rw [if_neg h0, if_neg h, if_neg h2]

theorem nextE (s : ByteArray) (k e : Nat) (he : e ≠ 0) (h : next (s.data.toList.drop k) = (0, 0, e)) :
    Ending.returned (.tuple #[.agg #[.int .i64 0, .string ⟨#[]⟩, .int .i64 0], .int .i64 e]) = .returned (nextV s.data.toList k) := by
  rw [nextV_err _ _ e he h]; rfl
theorem nextO (s : ByteArray) (k i kd : Nat) (h : next (s.data.toList.drop k) = (kd, i - k, 0)) :
    Ending.returned (.tuple #[.agg #[.int .i64 kd, .string (s.extract k i), .int .i64 k], .int .i64 0]) = .returned (nextV s.data.toList k) := by
  rw [nextV_ok _ _ kd _ h, eq_bs (extract_drop s k i)]

set_option maxHeartbeats 2000000 in
theorem next_dig (s : ByteArray) (w : World) (hs : s.size ≤ 140737488351232) (k : Nat) (hk : k < s.size) (hd : dig s[k] = true) :
    Calls Try.prog 26 #[.string s, .int .i64 (k : Int)] w fun e w' => e = .returned (nextV s.data.toList k) ∧ Below w.heap.size w w' := by
  have hl := Lib.hid (drop_cons s k hk)
  have Hd := Lib.hid hd
  clear hd
  go_enter Try.func26, Try.ntmps26
  go_wp2_with (go_at_call 34; refine (isDigit_yes _ _ Hd.out).mono ?_; rintro e w' ⟨rfl, rfl⟩)
  go_loop [6] (fun a => ∃ i : Nat, k ≤ i ∧ i ≤ s.size ∧ a = .int .i64 i ∧ ∀ j (h : j < i) (h' : j < s.size), k ≤ j → dig s[j] = true) (fun a => s.size - (intOf a).toNat)
  case atStart => exact ⟨k, Nat.le_refl _, by omega, rfl, fun j h _ h2 => by omega⟩
  case round =>
    obtain ⟨i, hki, hi, rfl, hall⟩ := hrel
    have Hall := Lib.hid hall
    clear hall
    have three : (∃ h : i < s.size, dig s[i] = true) ∨ (∃ h : i < s.size, dig s[i] = false) ∨ s.size ≤ i := by
      by_cases hlt : i < s.size
      · by_cases hb : dig s[i] = true
        · exact .inl ⟨hlt, hb⟩
        · exact .inr (.inl ⟨hlt, by simpa using hb⟩)
      · exact .inr (.inr (by omega))
    rcases three with ⟨hlt, hb⟩ | ⟨hlt, hb⟩ | hge
    · have Hb := Lib.hid hb
      clear hb
      go_wp2_with (go_at_call 34; refine (isDigit_yes _ _ Hb.out).mono ?_; rintro e w' ⟨rfl, rfl⟩)
      go_round
      case rel =>
        refine ⟨i + 1, by omega, by omega, by go_num, fun j h h' h2 => ?_⟩
        rcases Nat.lt_or_eq_of_le (Nat.le_of_lt_succ h) with hj | hj
        · exact Hall.out j hj h' h2
        · subst hj; exact Hb.out
      case measure => simp [intOf]; omega
    · have Hb := Lib.hid hb
      have hr := run_at dig s k i hki hi Hall.out (fun _ => Hb.out)
      rw [hl.out] at hr
      have Hr := Lib.hid hr
      clear hr hb
      go_wp2_with (go_at_call 34; refine (isDigit_no _ _ Hb.out).mono ?_; rintro e w' ⟨rfl, rfl⟩)
      all_goals first
        | (have g : (s[k].toNat : Int) = 48 ∧ 1 < (i : Int) - k := by omega
           exact bodyPost_ret (v := .tuple #[.agg #[.int .i64 0, .string ⟨#[]⟩, .int .i64 0], .int .i64 6]) (by simp [results, Try.results26, go_sem]) rfl ⟨nextE s k 6 (by omega) (by rw [hl.out]; exact next_dig1 _ _ Hd.out (by omega) (by rw [Hr.out]; omega)), (Below.refl _ _).alloc (Nat.le_refl _) _⟩)
        | (have g : 40 < (i : Int) - k := by omega
           exact bodyPost_ret (v := .tuple #[.agg #[.int .i64 0, .string ⟨#[]⟩, .int .i64 0], .int .i64 8]) (by simp [results, Try.results26, go_sem]) rfl ⟨nextE s k 8 (by omega) (by rw [hl.out]; exact next_dig2 _ _ Hd.out (by rw [Hr.out]; omega) (by rw [Hr.out]; omega)), (Below.refl _ _).alloc (Nat.le_refl _) _⟩)
        | exact bodyPost_ret (v := .tuple #[.agg #[.int .i64 1, .string (s.extract k i), .int .i64 k], .int .i64 0]) (by simp [results, Try.results26, go_sem]) rfl ⟨nextO s k i 1 (by rw [hl.out, next_dig3 _ _ Hd.out (by rw [Hr.out]; omega) (by rw [Hr.out]; omega), Hr.out]), (Below.refl _ _).alloc (Nat.le_refl _) _⟩
    · have hr := run_at dig s k i hki hi Hall.out (fun h => absurd h (by omega))
      rw [hl.out] at hr
      have Hr := Lib.hid hr
      clear hr
      go_wp2
      all_goals first
        | (have g : (s[k].toNat : Int) = 48 ∧ 1 < (i : Int) - k := by omega
           exact bodyPost_ret (v := .tuple #[.agg #[.int .i64 0, .string ⟨#[]⟩, .int .i64 0], .int .i64 6]) (by simp [results, Try.results26, go_sem]) rfl ⟨nextE s k 6 (by omega) (by rw [hl.out]; exact next_dig1 _ _ Hd.out (by omega) (by rw [Hr.out]; omega)), (Below.refl _ _).alloc (Nat.le_refl _) _⟩)
        | (have g : 40 < (i : Int) - k := by omega
           exact bodyPost_ret (v := .tuple #[.agg #[.int .i64 0, .string ⟨#[]⟩, .int .i64 0], .int .i64 8]) (by simp [results, Try.results26, go_sem]) rfl ⟨nextE s k 8 (by omega) (by rw [hl.out]; exact next_dig2 _ _ Hd.out (by rw [Hr.out]; omega) (by rw [Hr.out]; omega)), (Below.refl _ _).alloc (Nat.le_refl _) _⟩)
        | exact bodyPost_ret (v := .tuple #[.agg #[.int .i64 1, .string (s.extract k i), .int .i64 k], .int .i64 0]) (by simp [results, Try.results26, go_sem]) rfl ⟨nextO s k i 1 (by rw [hl.out, next_dig3 _ _ Hd.out (by rw [Hr.out]; omega) (by rw [Hr.out]; omega), Hr.out]), (Below.refl _ _).alloc (Nat.le_refl _) _⟩

theorem aln_cases (c : UInt8) : (ltr c = true ∧ aln c = true) ∨ (ltr c = false ∧ dig c = true ∧ aln c = true) ∨ (ltr c = false ∧ dig c = false ∧ aln c = false) := by
  unfold aln
  cases ltr c <;> cases dig c <;> simp

set_option maxHeartbeats 2000000 in
theorem next_let (s : ByteArray) (w : World) (hs : s.size ≤ 140737488351232) (k : Nat) (hk : k < s.size) (hd : dig s[k] = false) (ha : ltr s[k] = true) :
    Calls Try.prog 26 #[.string s, .int .i64 (k : Int)] w fun e w' => e = .returned (nextV s.data.toList k) ∧ Below w.heap.size w w' := by
  have hl := Lib.hid (drop_cons s k hk)
  have Hd := Lib.hid hd
  have Ha := Lib.hid ha
  clear hd ha
  go_enter Try.func26, Try.ntmps26
  go_wp2_with (first | (go_at_call 34; refine (isDigit_no _ _ Hd.out).mono ?_; rintro e w' ⟨rfl, rfl⟩) | (go_at_call 35; refine (isLetter_yes _ _ Ha.out).mono ?_; rintro e w' ⟨rfl, rfl⟩))
  go_loop [6] (fun a => ∃ i : Nat, k ≤ i ∧ i ≤ s.size ∧ a = .int .i64 i ∧ ∀ j (h : j < i) (h' : j < s.size), k ≤ j → aln s[j] = true) (fun a => s.size - (intOf a).toNat)
  case atStart => exact ⟨k, Nat.le_refl _, by omega, rfl, fun j h _ h2 => by omega⟩
  case round =>
    obtain ⟨i, hki, hi, rfl, hall⟩ := hrel
    have Hall := Lib.hid hall
    clear hall
    have four : (∃ h : i < s.size, ltr s[i] = true ∧ aln s[i] = true) ∨ (∃ h : i < s.size, ltr s[i] = false ∧ dig s[i] = true ∧ aln s[i] = true) ∨ (∃ h : i < s.size, ltr s[i] = false ∧ dig s[i] = false ∧ aln s[i] = false) ∨ s.size ≤ i := by
      by_cases hlt : i < s.size
      · rcases aln_cases s[i] with h | h | h
        · exact .inl ⟨hlt, h⟩
        · exact .inr (.inl ⟨hlt, h⟩)
        · exact .inr (.inr (.inl ⟨hlt, h⟩))
      · exact .inr (.inr (.inr (by omega)))
    rcases four with ⟨hlt, hb, hc⟩ | ⟨hlt, hb, he, hc⟩ | ⟨hlt, hb, he, hc⟩ | hge
    · have Hb := Lib.hid hb
      have Hc := Lib.hid hc
      clear hb hc
      go_wp2_with (go_at_call 35; refine (isLetter_yes _ _ Hb.out).mono ?_; rintro e w' ⟨rfl, rfl⟩)
      go_round
      case rel =>
        refine ⟨i + 1, by omega, by omega, by go_num, fun j h h' h2 => ?_⟩
        rcases Nat.lt_or_eq_of_le (Nat.le_of_lt_succ h) with hj | hj
        · exact Hall.out j hj h' h2
        · subst hj; exact Hc.out
      case measure => simp [intOf]; omega
    · have Hb := Lib.hid hb
      have Hc := Lib.hid hc
      have He := Lib.hid he
      clear hb hc he
      go_wp2_with (first | (go_at_call 35; refine (isLetter_no _ _ Hb.out).mono ?_; rintro e w' ⟨rfl, rfl⟩) | (go_at_call 34; refine (isDigit_yes _ _ He.out).mono ?_; rintro e w' ⟨rfl, rfl⟩))
      go_round
      case rel =>
        refine ⟨i + 1, by omega, by omega, by go_num, fun j h h' h2 => ?_⟩
        rcases Nat.lt_or_eq_of_le (Nat.le_of_lt_succ h) with hj | hj
        · exact Hall.out j hj h' h2
        · subst hj; exact Hc.out
      case measure => simp [intOf]; omega
    · have Hb := Lib.hid hb
      have He := Lib.hid he
      have hr := run_at aln s k i hki hi Hall.out (fun _ => hc)
      rw [hl.out] at hr
      have Hr := Lib.hid hr
      clear hr hb hc he
      go_wp2_with (first | (go_at_call 35; refine (isLetter_no _ _ Hb.out).mono ?_; rintro e w' ⟨rfl, rfl⟩) | (go_at_call 34; refine (isDigit_no _ _ He.out).mono ?_; rintro e w' ⟨rfl, rfl⟩) | (go_at_call 36; refine (isWord_any _ _).mono ?_; rintro e w' ⟨rfl, rfl⟩))
      all_goals first
        | (have g : 16 < (i : Int) - k := by omega
           exact bodyPost_ret (v := .tuple #[.agg #[.int .i64 0, .string ⟨#[]⟩, .int .i64 0], .int .i64 8]) (by simp [results, Try.results26, go_sem]) rfl ⟨nextE s k 8 (by omega) (by rw [hl.out]; exact next_let1 _ _ (by rw [Hd.out]; decide) Ha.out (by rw [Hr.out]; omega)), (Below.refl _ _).alloc (Nat.le_refl _) _⟩)
        | (have g : isWord (List.take (i - k) (List.drop k s.data.toList)) = true := by assumption
           exact bodyPost_ret (v := .tuple #[.agg #[.int .i64 3, .string (s.extract k i), .int .i64 k], .int .i64 0]) (by simp [results, Try.results26, go_sem]) rfl ⟨nextO s k i 3 (by rw [hl.out, next_let2 _ _ (by rw [Hd.out]; decide) Ha.out (by rw [Hr.out]; omega), Hr.out, ← hl.out, if_pos g]), (Below.refl _ _).alloc (Nat.le_refl _) _⟩)
        | (have g : isWord (List.take (i - k) (List.drop k s.data.toList)) = false := by assumption
           exact bodyPost_ret (v := .tuple #[.agg #[.int .i64 2, .string (s.extract k i), .int .i64 k], .int .i64 0]) (by simp [results, Try.results26, go_sem]) rfl ⟨nextO s k i 2 (by rw [hl.out, next_let2 _ _ (by rw [Hd.out]; decide) Ha.out (by rw [Hr.out]; omega), Hr.out, ← hl.out, g]; rfl), (Below.refl _ _).alloc (Nat.le_refl _) _⟩)
    · have hr := run_at aln s k i hki hi Hall.out (fun h => absurd h (by omega))
      rw [hl.out] at hr
      have Hr := Lib.hid hr
      clear hr
      go_wp2_with (go_at_call 36; refine (isWord_any _ _).mono ?_; rintro e w' ⟨rfl, rfl⟩)
      all_goals first
        | (have g : 16 < (i : Int) - k := by omega
           exact bodyPost_ret (v := .tuple #[.agg #[.int .i64 0, .string ⟨#[]⟩, .int .i64 0], .int .i64 8]) (by simp [results, Try.results26, go_sem]) rfl ⟨nextE s k 8 (by omega) (by rw [hl.out]; exact next_let1 _ _ (by rw [Hd.out]; decide) Ha.out (by rw [Hr.out]; omega)), (Below.refl _ _).alloc (Nat.le_refl _) _⟩)
        | (have g : isWord (List.take (i - k) (List.drop k s.data.toList)) = true := by assumption
           exact bodyPost_ret (v := .tuple #[.agg #[.int .i64 3, .string (s.extract k i), .int .i64 k], .int .i64 0]) (by simp [results, Try.results26, go_sem]) rfl ⟨nextO s k i 3 (by rw [hl.out, next_let2 _ _ (by rw [Hd.out]; decide) Ha.out (by rw [Hr.out]; omega), Hr.out, ← hl.out, if_pos g]), (Below.refl _ _).alloc (Nat.le_refl _) _⟩)
        | (have g : isWord (List.take (i - k) (List.drop k s.data.toList)) = false := by assumption
           exact bodyPost_ret (v := .tuple #[.agg #[.int .i64 2, .string (s.extract k i), .int .i64 k], .int .i64 0]) (by simp [results, Try.results26, go_sem]) rfl ⟨nextO s k i 2 (by rw [hl.out, next_let2 _ _ (by rw [Hd.out]; decide) Ha.out (by rw [Hr.out]; omega), Hr.out, ← hl.out, g]; rfl), (Below.refl _ _).alloc (Nat.le_refl _) _⟩)

set_option maxHeartbeats 2000000 in
theorem next_sig (s : ByteArray) (w : World) (hs : s.size ≤ 140737488351232) (k : Nat) (hk : k < s.size) (hd : dig s[k] = false) (ha : ltr s[k] = false) :
    Calls Try.prog 26 #[.string s, .int .i64 (k : Int)] w fun e w' => e = .returned (nextV s.data.toList k) ∧ Below w.heap.size w w' := by
  obtain ⟨l, hL⟩ : ∃ l, l = s.data.toList.drop k := ⟨_, rfl⟩
  obtain ⟨n, hN⟩ : ∃ n, n = signLen l := ⟨_, rfl⟩
  have hn : (s.extract k s.size).data.toList = l := by
    rw [hL, extract_drop]; exact List.take_of_length_le (by rw [List.length_drop, size_len]; omega)
  have hle : n ≤ s.size - k := by
    rw [hN, hL]; have := signLen_le (s.data.toList.drop k); rwa [List.length_drop, size_len] at this
  have hc : l = s[k] :: s.data.toList.drop (k + 1) := by rw [hL, drop_cons s k hk]
  have h1 : (s.extract k s.size).size ≤ 140737488351232 ∧ 0 < (s.extract k s.size).size := by
    rw [← size_len, hn, hL, List.length_drop, size_len]; omega
  have hsl := signLength_any (s.extract k s.size) (w.alloc (.cells #[.int .i64 0, .string ⟨#[]⟩, .int .i64 0] 101)) h1.1 h1.2
  rw [hn, ← hN] at hsl
  have Hd := Lib.hid hd
  have Ha := Lib.hid ha
  have HL := Lib.hid hL
  have HN := Lib.hid hN
  have HC := Lib.hid hc
  have HS := Lib.hid hsl
  clear hd ha hn hL hN hc hsl h1
  go_enter Try.func26, Try.ntmps26
  go_wp2_with (first | (go_at_call 34; refine (isDigit_no _ _ Hd.out).mono ?_; rintro e w' ⟨rfl, rfl⟩) | (go_at_call 35; refine (isLetter_no _ _ Ha.out).mono ?_; rintro e w' ⟨rfl, rfl⟩) | (go_at_call 37; refine HS.out.mono ?_; rintro e w' ⟨rfl, rfl⟩))
  · have g : 0 < n := by omega
    exact bodyPost_ret (v := .tuple #[.agg #[.int .i64 4, .string (s.extract k (k + n)), .int .i64 k], .int .i64 0]) (by simp [results, Try.results26, go_sem]) rfl ⟨nextO s k (k + n) 4 (by rw [← HL.out, HC.out, next_sig1 _ _ (by rw [Hd.out]; decide) (by rw [Ha.out]; decide) (by rw [← HC.out, ← HN.out]; exact g), ← HC.out, ← HN.out, Nat.add_sub_cancel_left]), (Below.refl _ _).alloc (Nat.le_refl _) _⟩
  · exact bodyPost_ret (v := .tuple #[.agg #[.int .i64 0, .string ⟨#[]⟩, .int .i64 0], .int .i64 6]) (by simp [results, Try.results26, go_sem]) rfl ⟨nextE s k 6 (by omega) (by rw [← HL.out, HC.out]; exact next_sig2 _ _ (by rw [Hd.out]; decide) (by rw [Ha.out]; decide) (by rw [← HC.out, ← HN.out]; omega)), (Below.refl _ _).alloc (Nat.le_refl _) _⟩

theorem next_any (s : ByteArray) (w : World) (hs : s.size ≤ 140737488351232) (k : Nat) (hk : k < s.size):
    Calls Try.prog 26 #[.string s, .int .i64 (k : Int)] w fun e w' => e = .returned (nextV s.data.toList k) ∧ Below w.heap.size w w' := by
  by_cases hd : dig s[k] = true
  · exact next_dig s w hs k hk hd
  · have hd' : dig s[k] = false := by simpa using hd
    by_cases ha : ltr s[k] = true
    · exact next_let s w hs k hk hd' ha
    · exact next_sig s w hs k hk hd' (by simpa using ha)
end Go.Proofs.Ytkjbfomokdjbnaa
