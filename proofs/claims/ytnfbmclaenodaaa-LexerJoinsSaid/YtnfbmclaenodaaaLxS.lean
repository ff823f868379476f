/-
  Walks of the lexer's reference: IsWord, kind, longest, wrong, Before, Lex, Same.
-/
import Derived.Test.YtnfbmclaenodaaaLxR
import Derived.Deep.QuietTactic
import Derived.BigQuiet
namespace Go.Proofs.Ytnfbmclaenodaaa
open Go.RowKit Lx
set_option linter.unusedSimpArgs false
set_option linter.unusedVariables false

theorem size_own {a w : World} (h : Below a.heap.size a w) : a.heap.size ≤ w.heap.size := h.size

set_option maxHeartbeats 1000000 in
theorem risWord_any (s : ByteArray) (w : World) :
    Calls Try.prog 21 #[.string s] w fun e w' => e = .returned (.bool (isWord s.data.toList)) ∧ Below w.heap.size w w' := by
  obtain ⟨R, hR⟩ : ∃ R, R = isWord s.data.toList := ⟨_, rfl⟩
  rw [← hR]
  have HR := Lib.hid hR
  clear hR
  go_enter Try.func21, Try.ntmps21
  go_wp2_with fail
  refine (words_any _).mono ?_
  rintro e w1 ⟨v, rfl, hown, hb⟩
  go_wp2_with fail
  refine (has_any words v s w1.heap.size _ (by decide) (Sl.of_own hown)).mono ?_
  rintro e w' ⟨rfl, rfl⟩
  go_wp2_with fail
  go_ret
  exact ⟨ret_bool HR.out.symm, hb⟩

theorem kindR_1 {l : Bytes} (h : numB l = true) : kindR l = 1 := by unfold kindR; rw [if_pos h]
theorem kindR_3 {l : Bytes} (h : numB l = false) (h2 : nameB l = true) (h3 : isWord l = true) : kindR l = 3 := by unfold kindR; rw [h, h2, h3]; rfl
theorem kindR_2 {l : Bytes} (h : numB l = false) (h2 : nameB l = true) (h3 : isWord l = false) : kindR l = 2 := by unfold kindR; rw [h, h2, h3]; rfl
theorem kindR_4 {l : Bytes} (h : numB l = false) (h2 : nameB l = false) (h3 : isSign l = true) : kindR l = 4 := by unfold kindR; rw [h, h2, h3]; rfl
theorem kindR_0 {l : Bytes} (h : numB l = false) (h2 : nameB l = false) (h3 : isSign l = false) : kindR l = 0 := by unfold kindR; rw [h, h2, h3]; rfl

set_option maxHeartbeats 2000000 in
theorem kind_any (s : ByteArray) (w : World) (hs : s.size ≤ 140737488351232) :
    Calls Try.prog 29 #[.string s] w fun e w' => e = .returned (.int .i64 ((kindR s.data.toList : Nat) : Int)) ∧ Below w.heap.size w w' := by
  obtain ⟨R, hR⟩ : ∃ R, R = kindR s.data.toList := ⟨_, rfl⟩
  rw [← hR]
  have HR := Lib.hid hR
  clear hR
  have number_is : ∀ b, numB s.data.toList = b → ∀ W, Calls Try.prog 40 #[.string s] W fun e w' => e = .returned (.bool b) ∧ W = w' := by intro b hb W; subst hb; exact number_any s W hs
  have name_is : ∀ b, nameB s.data.toList = b → ∀ W, Calls Try.prog 41 #[.string s] W fun e w' => e = .returned (.bool b) ∧ W = w' := by intro b hb W; subst hb; exact name_any s W hs
  have word_is : ∀ b, isWord s.data.toList = b → ∀ W, Calls Try.prog 21 #[.string s] W fun e w' => e = .returned (.bool b) ∧ Below W.heap.size W w' := by intro b hb W; subst hb; exact risWord_any s W
  have NI := Lib.hid number_is
  have MI := Lib.hid name_is
  have WI := Lib.hid word_is
  clear number_is name_is word_is
  by_cases h1 : numB s.data.toList = true
  · have H1 := Lib.hid h1
    have HF := Lib.hid (kindR_1 h1)
    clear h1
    go_enter Try.func29, Try.ntmps29
    go_wp2_with (go_at_call 40; refine (NI.out true H1.out _).mono ?_; rintro e w' ⟨rfl, rfl⟩)
    go_ret
    exact ⟨ret_int (by rw [HR.out, HF.out]; rfl), Below.refl _ _⟩
  · have h1' : numB s.data.toList = false := by simpa using h1
    have H1 := Lib.hid h1'
    by_cases h2 : nameB s.data.toList = true
    · have H2 := Lib.hid h2
      by_cases h3 : isWord s.data.toList = true
      · have H3 := Lib.hid h3
        have HF := Lib.hid (kindR_3 h1' h2 h3)
        clear h1 h1' h2 h3
        go_enter Try.func29, Try.ntmps29
        go_wp2_with (first | (go_at_call 40; refine (NI.out false H1.out _).mono ?_; rintro e w' ⟨rfl, rfl⟩) | (go_at_call 41; refine (MI.out true H2.out _).mono ?_; rintro e w' ⟨rfl, rfl⟩) | (go_at_call 21; refine (WI.out true H3.out _).mono ?_; rintro e w1 ⟨rfl, hb1⟩))
        go_ret
        exact ⟨ret_int (by rw [HR.out, HF.out]; rfl), hb1⟩
      · have h3' : isWord s.data.toList = false := by simpa using h3
        have H3 := Lib.hid h3'
        have HF := Lib.hid (kindR_2 h1' h2 h3')
        clear h1 h1' h2 h3 h3'
        go_enter Try.func29, Try.ntmps29
        go_wp2_with (first | (go_at_call 40; refine (NI.out false H1.out _).mono ?_; rintro e w' ⟨rfl, rfl⟩) | (go_at_call 41; refine (MI.out true H2.out _).mono ?_; rintro e w' ⟨rfl, rfl⟩) | (go_at_call 21; refine (WI.out false H3.out _).mono ?_; rintro e w1 ⟨rfl, hb1⟩))
        go_ret
        exact ⟨ret_int (by rw [HR.out, HF.out]; rfl), hb1⟩
    · have h2' : nameB s.data.toList = false := by simpa using h2
      have H2 := Lib.hid h2'
      have has_is : ∀ b, isSign s.data.toList = b → ∀ v W, W.ownsRow w.heap.size 9 1 v 14 (signs.map strV) → Calls Try.prog 30 #[v, .string s] W fun e w' => e = .returned (.bool b) ∧ W = w' := by
        intro b hb v W ho; subst hb; exact has_any signs v s W.heap.size W (by decide) (Sl.of_own ho)
      have SI := Lib.hid has_is
      clear has_is
      by_cases h3 : isSign s.data.toList = true
      · have H3 := Lib.hid h3
        have HF := Lib.hid (kindR_4 h1' h2' h3)
        clear h1 h1' h2 h2' h3
        go_enter Try.func29, Try.ntmps29
        go_wp2_with (first | (go_at_call 40; refine (NI.out false H1.out _).mono ?_; rintro e w' ⟨rfl, rfl⟩) | (go_at_call 41; refine (MI.out false H2.out _).mono ?_; rintro e w' ⟨rfl, rfl⟩))
        refine (signs_any _).mono ?_
        rintro e w1 ⟨v, rfl, hown, hb1⟩
        go_wp2_with (go_at_call 30; refine (SI.out true H3.out _ _ hown).mono ?_; rintro e w' ⟨rfl, rfl⟩)
        go_ret
        exact ⟨ret_int (by rw [HR.out, HF.out]; rfl), hb1⟩
      · have h3' : isSign s.data.toList = false := by simpa using h3
        have H3 := Lib.hid h3'
        have HF := Lib.hid (kindR_0 h1' h2' h3')
        clear h1 h1' h2 h2' h3 h3'
        go_enter Try.func29, Try.ntmps29
        go_wp2_with (first | (go_at_call 40; refine (NI.out false H1.out _).mono ?_; rintro e w' ⟨rfl, rfl⟩) | (go_at_call 41; refine (MI.out false H2.out _).mono ?_; rintro e w' ⟨rfl, rfl⟩))
        refine (signs_any _).mono ?_
        rintro e w1 ⟨v, rfl, hown, hb1⟩
        go_wp2_with (go_at_call 30; refine (SI.out false H3.out _ _ hown).mono ?_; rintro e w' ⟨rfl, rfl⟩)
        go_ret
        exact ⟨ret_int (by rw [HR.out, HF.out]; rfl), hb1⟩


theorem bs_extract0 (s : ByteArray) (n : Nat) : (s.extract 0 n).data.toList = s.data.toList.take n := by rw [extract_drop, List.drop_zero, Nat.sub_zero]

set_option maxHeartbeats 2000000 in
theorem longest_any (s : ByteArray) (w : World) (hs : s.size ≤ 140737488351232) :
    Calls Try.prog 27 #[.string s] w fun e w' => e = .returned (.int .i64 ((tokLen s.data.toList : Nat) : Int)) ∧ Below w.heap.size w w' := by
  obtain ⟨R, hR⟩ : ∃ R, R = tokLen s.data.toList := ⟨_, rfl⟩
  rw [← hR]
  have hRle : R ≤ s.size := by rw [hR]; exact tokLen_le s.data.toList
  have kind_is : ∀ (i k : Nat) (W : World), k = kindR (s.data.toList.take i) → i ≤ s.size → Calls Try.prog 29 #[.string (s.extract 0 i)] W fun e w' => e = .returned (.int .i64 (k : Int)) ∧ Below W.heap.size W w' := by
    intro i k W hk hi
    subst hk
    have := kind_any (s.extract 0 i) W (by rw [← size_len, bs_extract0, List.length_take, size_len]; omega)
    rwa [bs_extract0] at this
  have KI := Lib.hid kind_is
  have kt : ∀ i, 1 ≤ i → i ≤ s.size → (kindR (s.data.toList.take i) ≠ 0 ↔ i ≤ R) := by
    intro i h1 h2; rw [hR]; exact kindR_take s.data.toList i h1 (by rw [size_len]; exact h2)
  have KT := Lib.hid kt
  clear hR kind_is kt
  go_enter Try.func27, Try.ntmps27
  go_wp2
  go_loopw [3, 4] (fun b a wr => ∃ i m : Nat, 1 ≤ i ∧ i ≤ s.size + 1 ∧ a = .int .i64 i ∧ b = .int .i64 m ∧ m = min (i - 1) R ∧ Below w.heap.size w wr) (fun _ a _ => s.size + 1 - (intOf a).toNat)
  case atStart => exact ⟨1, 0, by omega, by omega, rfl, rfl, by omega, Below.refl _ _⟩
  case round =>
    obtain ⟨i, m, h1, h2, rfl, rfl, hm, hbel⟩ := hrel
    by_cases hlt : i ≤ s.size
    · have hk := KT.out i h1 hlt
      obtain ⟨k, hkk⟩ : ∃ k, k = kindR (s.data.toList.take i) := ⟨_, rfl⟩
      rw [← hkk] at hk
      have HK := Lib.hid hkk
      by_cases hiR : i ≤ R
      · have hk0 : (((k : Nat) : Int) != 0) = true := by have := hk.2 hiR; simp; omega
        have hmi : m = i - 1 := by omega
        have hg : ¬ ((i : Int) + 1 < i) := by omega
        clear hkk hk hm hmi
        go_wp2_with (go_at_call 29; refine (KI.out i k _ HK.out hlt).mono ?_; rintro e w1 ⟨rfl, hb1⟩)
        go_roundw
        case rel => exact ⟨i + 1, i, by omega, by omega, by go_num, rfl, by omega, hbel.trans (hb1.mono hbel.size)⟩
        case measure => simp [intOf]; omega
      · have hk0 : (((k : Nat) : Int) != 0) = false := by
          have h : k = 0 := by
            rcases Nat.eq_zero_or_pos k with h | h
            · exact h
            · exact absurd (hk.1 (by omega)) hiR
          simp [h]
        have hmR : m = R := by omega
        have hmi : m < i := by omega
        have HM := Lib.hid hmR
        clear hkk hk hm hmR
        by_cases hr : 0 < m ∧ m + 1 < i
        · have hr1 := hr.1
          have hr2 := hr.2
          clear hr
          go_wp2_with (go_at_call 29; refine (KI.out i k _ HK.out hlt).mono ?_; rintro e w1 ⟨rfl, hb1⟩)
          go_ret
          exact ⟨ret_int (by rw [HM.out]), hbel.trans (hb1.mono hbel.size)⟩
        · by_cases hm0 : 0 < m
          · have hr2 : i ≤ m + 1 := by omega
            clear hr
            go_wp2_with (go_at_call 29; refine (KI.out i k _ HK.out hlt).mono ?_; rintro e w1 ⟨rfl, hb1⟩)
            go_roundw
            case rel => exact ⟨i + 1, m, by omega, by omega, by go_num, rfl, by have := HM.out; omega, hbel.trans (hb1.mono hbel.size)⟩
            case measure => simp [intOf]; omega
          · clear hr
            go_wp2_with (go_at_call 29; refine (KI.out i k _ HK.out hlt).mono ?_; rintro e w1 ⟨rfl, hb1⟩)
            go_roundw
            case rel => exact ⟨i + 1, m, by omega, by omega, by go_num, rfl, by have := HM.out; omega, hbel.trans (hb1.mono hbel.size)⟩
            case measure => simp [intOf]; omega
    · have hmR : m = R := by omega
      have HM := Lib.hid hmR
      clear hm hmR
      go_wp2
      go_ret
      exact ⟨ret_int (by rw [HM.out]), hbel⟩

theorem wrongR_6 {l : Bytes} (h : kindR l = 1) (h1 : 1 < l.length) (h2 : (l.headD 0).toNat = 48) : wrongR l = 6 := by unfold wrongR; rw [if_pos ⟨h, h1, h2⟩]
theorem wrongR_8 {l : Bytes} (h : ¬ (kindR l = 1 ∧ 1 < l.length ∧ (l.headD 0).toNat = 48)) (h2 : (kindR l = 1 ∧ 40 < l.length) ∨ ((kindR l = 2 ∨ kindR l = 3) ∧ 16 < l.length)) : wrongR l = 8 := by unfold wrongR; rw [if_neg h, if_pos h2]
theorem wrongR_0 {l : Bytes} (h : ¬ (kindR l = 1 ∧ 1 < l.length ∧ (l.headD 0).toNat = 48)) (h2 : ¬ ((kindR l = 1 ∧ 40 < l.length) ∨ ((kindR l = 2 ∨ kindR l = 3) ∧ 16 < l.length))) : wrongR l = 0 := by unfold wrongR; rw [if_neg h, if_neg h2]

theorem head_at (s : ByteArray) (h : 0 < s.size) : s.data.toList.headD 0 = s[0] := by
  have e := drop_cons s 0 h
  rw [List.drop_zero] at e
  rw [e]; rfl

set_option maxHeartbeats 2000000 in
theorem wrong_any (s : ByteArray) (w : World) (hs : s.size ≤ 140737488351232) :
    Calls Try.prog 28 #[.string s] w fun e w' => e = .returned (.int .i64 ((wrongR s.data.toList : Nat) : Int)) ∧ Below w.heap.size w w' := by
  obtain ⟨R, hR⟩ : ∃ R, R = wrongR s.data.toList := ⟨_, rfl⟩
  rw [← hR]
  have HR := Lib.hid hR
  clear hR
  obtain ⟨k, hk⟩ : ∃ k, k = kindR s.data.toList := ⟨_, rfl⟩
  have kind_is : ∀ W, Calls Try.prog 29 #[.string s] W fun e w' => e = .returned (.int .i64 (k : Int)) ∧ Below W.heap.size W w' := by intro W; rw [hk]; exact kind_any s W hs
  have KI := Lib.hid kind_is
  have HK := Lib.hid hk
  clear kind_is hk
  by_cases h1 : k = 1
  · have hk1 : ((k : Int) == 1) = true := by simp; omega
    by_cases h2 : 1 < s.size
    · by_cases h3 : (s[0].toNat : Int) = 48
      · have h3' : ((s[0].toNat : Int) == 48) = true := by simpa using h3
        have HF := Lib.hid (wrongR_6 (HK.out.symm.trans h1) (by rw [size_len]; exact h2) (by rw [head_at s (by omega)]; omega))
        clear h1 h3
        go_enter Try.func28, Try.ntmps28
        go_wp2_with (go_at_call 29; refine (KI.out _).mono ?_; rintro e w1 ⟨rfl, hb1⟩)
        go_ret
        exact ⟨ret_int (by rw [HR.out, HF.out]; rfl), hb1⟩
      · have h3' : ((s[0].toNat : Int) == 48) = false := by simpa using h3
        have hno : ¬ (kindR s.data.toList = 1 ∧ 1 < s.data.toList.length ∧ (s.data.toList.headD 0).toNat = 48) := by
          rw [head_at s (by omega)]; omega
        by_cases h4 : 40 < s.size
        · have HF := Lib.hid (wrongR_8 hno (.inl ⟨HK.out.symm.trans h1, by rw [size_len]; exact h4⟩))
          clear h1 h3 hno
          go_enter Try.func28, Try.ntmps28
          go_wp2_with (go_at_call 29; refine (KI.out _).mono ?_; rintro e w1 ⟨rfl, hb1⟩)
          go_ret
          exact ⟨ret_int (by rw [HR.out, HF.out]; rfl), hb1⟩
        · have HF := Lib.hid (wrongR_0 hno (by rw [← HK.out, size_len]; omega))
          have hk2 : ((k : Int) == 2) = false := by simp; omega
          have hk3 : ((k : Int) == 3) = false := by simp; omega
          clear h1 h3 hno
          go_enter Try.func28, Try.ntmps28
          go_wp2_with (go_at_call 29; refine (KI.out _).mono ?_; rintro e w1 ⟨rfl, hb1⟩)
          go_ret
          exact ⟨ret_int (by rw [HR.out, HF.out]; rfl), hb1⟩
    · have HF := Lib.hid (wrongR_0 (l := s.data.toList) (by rw [size_len]; omega) (by rw [size_len]; omega))
      have hk2 : ((k : Int) == 2) = false := by simp; omega
      have hk3 : ((k : Int) == 3) = false := by simp; omega
      clear h1
      go_enter Try.func28, Try.ntmps28
      go_wp2_with (go_at_call 29; refine (KI.out _).mono ?_; rintro e w1 ⟨rfl, hb1⟩)
      go_ret
      exact ⟨ret_int (by rw [HR.out, HF.out]; rfl), hb1⟩
  · have hk1 : ((k : Int) == 1) = false := by simp; omega
    have hno : ¬ (kindR s.data.toList = 1 ∧ 1 < s.data.toList.length ∧ (s.data.toList.headD 0).toNat = 48) := by rw [← HK.out]; omega
    by_cases h23 : (k = 2 ∨ k = 3) ∧ 16 < s.size
    · have HF := Lib.hid (wrongR_8 hno (.inr ⟨by rw [← HK.out]; exact h23.1, by rw [size_len]; exact h23.2⟩))
      have h16 := h23.2
      rcases h23.1 with h2 | h2
      · have hk2 : ((k : Int) == 2) = true := by simp; omega
        clear h1 h2 hno h23
        go_enter Try.func28, Try.ntmps28
        go_wp2_with (go_at_call 29; refine (KI.out _).mono ?_; rintro e w1 ⟨rfl, hb1⟩)
        go_ret
        exact ⟨ret_int (by rw [HR.out, HF.out]; rfl), hb1⟩
      · have hk2 : ((k : Int) == 2) = false := by simp; omega
        have hk3 : ((k : Int) == 3) = true := by simp; omega
        clear h1 h2 hno h23
        go_enter Try.func28, Try.ntmps28
        go_wp2_with (go_at_call 29; refine (KI.out _).mono ?_; rintro e w1 ⟨rfl, hb1⟩)
        go_ret
        exact ⟨ret_int (by rw [HR.out, HF.out]; rfl), hb1⟩
    · have HF := Lib.hid (wrongR_0 hno (by rw [← HK.out, size_len]; omega))
      by_cases h2 : k = 2
      · have hk2 : ((k : Int) == 2) = true := by simp; omega
        have h16 : s.size ≤ 16 := by omega
        clear h1 h2 hno h23
        go_enter Try.func28, Try.ntmps28
        go_wp2_with (go_at_call 29; refine (KI.out _).mono ?_; rintro e w1 ⟨rfl, hb1⟩)
        go_ret
        exact ⟨ret_int (by rw [HR.out, HF.out]; rfl), hb1⟩
      · have hk2 : ((k : Int) == 2) = false := by simp; omega
        by_cases h3 : k = 3
        · have hk3 : ((k : Int) == 3) = true := by simp; omega
          have h16 : s.size ≤ 16 := by omega
          clear h1 h2 hno h23 h3
          go_enter Try.func28, Try.ntmps28
          go_wp2_with (go_at_call 29; refine (KI.out _).mono ?_; rintro e w1 ⟨rfl, hb1⟩)
          go_ret
          exact ⟨ret_int (by rw [HR.out, HF.out]; rfl), hb1⟩
        · have hk3 : ((k : Int) == 3) = false := by simp; omega
          clear h1 h2 hno h23 h3
          go_enter Try.func28, Try.ntmps28
          go_wp2_with (go_at_call 29; refine (KI.out _).mono ?_; rintro e w1 ⟨rfl, hb1⟩)
          go_ret
          exact ⟨ret_int (by rw [HR.out, HF.out]; rfl), hb1⟩

end Go.Proofs.Ytnfbmclaenodaaa
