/-
  Walks of the lexer's reference: digit, letter, Blank, number, name, words, signs, Has, IsWord, kind.
-/
import Derived.Test.YtnfbmclaenodaaaLxC
import Derived.Test.YtnfbmclaenodaaaLxPlainC
namespace Go.Proofs.Ytnfbmclaenodaaa
open Go.RowKit Lx
set_option linter.unusedSimpArgs false
set_option linter.unusedVariables false

set_option maxHeartbeats 400000 in
theorem rdigit_any (c : UInt8) (w : World) :
    Calls Try.prog 45 #[.int .u8 (c.toNat : Int)] w fun e w' => e = .returned (.bool (dig c)) ∧ w = w' := by
  go_enter Try.func45, Try.ntmps45
  go_wp2
  all_goals
    go_ret
    refine ⟨ret_bool ?_, rfl⟩
    rw [Bool.eq_iff_iff]
    unfold dig
    simp
    try omega
theorem rdigit_is (c : UInt8) (w : World) (b : Bool) (h : dig c = b) :
    Calls Try.prog 45 #[.int .u8 (c.toNat : Int)] w fun e w' => e = .returned (.bool b) ∧ w = w' := by
  subst h; exact rdigit_any c w

set_option maxHeartbeats 400000 in
theorem rletter_any (c : UInt8) (w : World) :
    Calls Try.prog 46 #[.int .u8 (c.toNat : Int)] w fun e w' => e = .returned (.bool (ltr c)) ∧ w = w' := by
  go_enter Try.func46, Try.ntmps46
  go_wp2
  all_goals
    go_ret
    refine ⟨ret_bool ?_, rfl⟩
    rw [Bool.eq_iff_iff]
    unfold ltr
    simp
    try omega
theorem rletter_is (c : UInt8) (w : World) (b : Bool) (h : ltr c = b) :
    Calls Try.prog 46 #[.int .u8 (c.toNat : Int)] w fun e w' => e = .returned (.bool b) ∧ w = w' := by
  subst h; exact rletter_any c w

set_option maxHeartbeats 400000 in
theorem rblank_any (c : UInt8) (w : World) :
    Calls Try.prog 16 #[.int .u8 (c.toNat : Int)] w fun e w' => e = .returned (.bool (bl c)) ∧ w = w' := by
  go_enter Try.func16, Try.ntmps16
  go_wp2
  all_goals
    go_ret
    refine ⟨ret_bool ?_, rfl⟩
    rw [Bool.eq_iff_iff]
    unfold bl
    simp
    try omega
theorem rblank_is (c : UInt8) (w : World) (b : Bool) (h : bl c = b) :
    Calls Try.prog 16 #[.int .u8 (c.toNat : Int)] w fun e w' => e = .returned (.bool b) ∧ w = w' := by
  subst h; exact rblank_any c w

theorem numB_pos (s : ByteArray) (h0 : 0 < s.size) (h : ∀ j (h : j < s.size), dig s[j] = true) : numB s.data.toList = true := by
  have hne : s.data.toList.isEmpty = false := by
    have e := drop_cons s 0 h0
    rw [List.drop_zero] at e
    rw [e]; rfl
  unfold numB
  rw [hne]
  simp only [Bool.not_false, Bool.true_and, List.all_eq_true]
  intro c hc
  obtain ⟨j, hj, rfl⟩ := List.getElem_of_mem hc
  exact h j hj
theorem numB_neg (s : ByteArray) (j : Nat) (hj : j < s.size) (h : dig s[j] = false) : numB s.data.toList = false := by
  unfold numB
  have : s.data.toList.all dig = false := by
    rw [List.all_eq_false]
    exact ⟨s.data.toList[j]'hj, List.getElem_mem _, by rw [get_list s j hj, h]; decide⟩
  rw [this, Bool.and_false]
theorem numB_nil (s : ByteArray) (h0 : s.size = 0) : numB s.data.toList = false := by
  have : s.data.toList = [] := List.eq_nil_of_length_eq_zero (by rw [size_len]; exact h0)
  rw [this]; rfl

set_option maxHeartbeats 1000000 in
theorem number_any (s : ByteArray) (w : World) (hs : s.size ≤ 140737488351232) :
    Calls Try.prog 40 #[.string s] w fun e w' => e = .returned (.bool (numB s.data.toList)) ∧ w = w' := by
  obtain ⟨R, hR⟩ : ∃ R, R = numB s.data.toList := ⟨_, rfl⟩
  rw [← hR]
  have HR := Lib.hid hR
  clear hR
  go_enter Try.func40, Try.ntmps40
  go_wp2
  go_loop [3] (fun a => ∃ i : Nat, i ≤ s.size ∧ a = .int .i64 i ∧ ∀ j (h : j < s.size), j < i → dig s[j] = true) (fun a => s.size - (intOf a).toNat)
  case atStart => exact ⟨0, Nat.zero_le _, rfl, fun j _ h => by omega⟩
  case round =>
    obtain ⟨i, hi, rfl, hall⟩ := hrel
    have Hall := Lib.hid hall
    clear hall
    by_cases hlt : i < s.size
    · by_cases hb : dig s[i] = true
      · have Hb := Lib.hid hb
        clear hb
        go_wp2_with (go_at_call 45; refine (rdigit_is _ _ true Hb.out).mono ?_; rintro e w' ⟨rfl, rfl⟩)
        go_round
        case rel =>
          refine ⟨i + 1, by omega, by go_num, fun j h' h => ?_⟩
          rcases Nat.lt_or_eq_of_le (Nat.le_of_lt_succ h) with hj | hj
          · exact Hall.out j h' hj
          · subst hj; exact Hb.out
        case measure => simp [intOf]; omega
      · have Hb := Lib.hid (show dig s[i] = false by simpa using hb)
        have HF := Lib.hid (numB_neg s i hlt Hb.out)
        clear hb
        go_wp2_with (go_at_call 45; refine (rdigit_is _ _ false Hb.out).mono ?_; rintro e w' ⟨rfl, rfl⟩)
        go_ret
        exact ⟨ret_bool (by rw [HR.out, HF.out]), rfl⟩
    · by_cases h0 : s.size = 0
      · have HF := Lib.hid (numB_nil s h0)
        have h0' : ¬ 0 < (s.size : Int) := by omega
        have Hz := Lib.hid h0
        clear h0
        go_wp2
        go_ret
        exact ⟨ret_bool (by rw [HR.out, HF.out]; simp only [decide_eq_false_iff_not]; have := Hz.out; omega), rfl⟩
      · have HF := Lib.hid (numB_pos s (by omega) (fun j h => Hall.out j h (by omega)))
        have h0' : 0 < (s.size : Int) := by omega
        clear h0
        go_wp2
        go_ret
        exact ⟨ret_bool (by rw [HR.out, HF.out]; simp only [decide_eq_true_eq]; omega), rfl⟩

theorem nameB_neg0 (s : ByteArray) (hj : 0 < s.size) (h : ltr s[0] = false) : nameB s.data.toList = false := by
  have e := drop_cons s 0 hj
  rw [List.drop_zero] at e
  rw [e]
  simp [nameB, h]
theorem nameB_neg (s : ByteArray) (j : Nat) (hj : j < s.size) (h : aln s[j] = false) : nameB s.data.toList = false := by
  have e := drop_cons s 0 (by omega)
  rw [List.drop_zero] at e
  by_cases hj0 : j = 0
  · subst hj0
    refine nameB_neg0 s hj ?_
    unfold aln at h
    simp at h
    exact h.1
  · have hm : s[j] ∈ s.data.toList.drop 1 := by
      rw [List.mem_iff_getElem]
      refine ⟨j - 1, by rw [List.length_drop, size_len]; omega, ?_⟩
      rw [List.getElem_drop]
      have e1 : 1 + (j - 1) = j := by omega
      simp only [e1]
      rfl
    have : (s.data.toList.drop 1).all aln = false := by
      rw [List.all_eq_false]
      exact ⟨_, hm, by rw [h]; decide⟩
    rw [e]
    show (ltr s[0] && (s.data.toList.drop 1).all aln) = false
    rw [this, Bool.and_false]
theorem nameB_nil (s : ByteArray) (h0 : s.size = 0) : nameB s.data.toList = false := by
  have : s.data.toList = [] := List.eq_nil_of_length_eq_zero (by rw [size_len]; exact h0)
  rw [this]; rfl
theorem nameB_pos (s : ByteArray) (h0 : 0 < s.size) (h : ∀ j (h : j < s.size), aln s[j] = true ∧ (j = 0 → ltr s[j] = true)) : nameB s.data.toList = true := by
  have e := drop_cons s 0 h0
  rw [List.drop_zero] at e
  rw [e]
  show (ltr s[0] && (s.data.toList.drop 1).all aln) = true
  rw [(h 0 h0).2 rfl, Bool.true_and, List.all_eq_true]
  intro c hc
  obtain ⟨j, hj, rfl⟩ := List.getElem_of_mem (List.mem_of_mem_drop hc)
  exact (h j hj).1

set_option maxHeartbeats 2000000 in
theorem name_any (s : ByteArray) (w : World) (hs : s.size ≤ 140737488351232) :
    Calls Try.prog 41 #[.string s] w fun e w' => e = .returned (.bool (nameB s.data.toList)) ∧ w = w' := by
  obtain ⟨R, hR⟩ : ∃ R, R = nameB s.data.toList := ⟨_, rfl⟩
  rw [← hR]
  have HR := Lib.hid hR
  clear hR
  go_enter Try.func41, Try.ntmps41
  go_wp2
  go_loop [3] (fun a => ∃ i : Nat, i ≤ s.size ∧ a = .int .i64 i ∧ ∀ j (h : j < s.size), j < i → aln s[j] = true ∧ (j = 0 → ltr s[j] = true)) (fun a => s.size - (intOf a).toNat)
  case atStart => exact ⟨0, Nat.zero_le _, rfl, fun j _ h => by omega⟩
  case round =>
    obtain ⟨i, hi, rfl, hall⟩ := hrel
    have Hall := Lib.hid hall
    clear hall
    by_cases hlt : i < s.size
    · rcases aln_cases s[i] with ⟨hb, hc⟩ | ⟨hb, he, hc⟩ | ⟨hb, he, hc⟩
      · have Hb := Lib.hid hb
        have Hc := Lib.hid hc
        clear hb hc
        go_wp2_with (go_at_call 46; refine (rletter_is _ _ true Hb.out).mono ?_; rintro e w' ⟨rfl, rfl⟩)
        go_round
        case rel =>
          refine ⟨i + 1, by omega, by go_num, fun j h' h => ?_⟩
          rcases Nat.lt_or_eq_of_le (Nat.le_of_lt_succ h) with hj | hj
          · exact Hall.out j h' hj
          · subst hj; exact ⟨Hc.out, fun _ => Hb.out⟩
        case measure => simp [intOf]; omega
      · have Hb := Lib.hid hb
        have Hc := Lib.hid hc
        have He := Lib.hid he
        by_cases h0 : i = 0
        · have HF : Hid (nameB s.data.toList = false) := by subst h0; exact nameB_neg0 s hlt hb
          have h0' : ((i : Int) == 0) = true := by simp; omega
          clear hb hc he h0
          go_wp2_with (first | (go_at_call 46; refine (rletter_is _ _ false Hb.out).mono ?_; rintro e w' ⟨rfl, rfl⟩) | (go_at_call 45; refine (rdigit_is _ _ true He.out).mono ?_; rintro e w' ⟨rfl, rfl⟩))
          go_ret
          exact ⟨ret_bool (by rw [HR.out, HF.out]), rfl⟩
        · have h0' : ((i : Int) == 0) = false := by simp; omega
          clear hb hc he
          go_wp2_with (first | (go_at_call 46; refine (rletter_is _ _ false Hb.out).mono ?_; rintro e w' ⟨rfl, rfl⟩) | (go_at_call 45; refine (rdigit_is _ _ true He.out).mono ?_; rintro e w' ⟨rfl, rfl⟩))
          go_round
          case rel =>
            refine ⟨i + 1, by omega, by go_num, fun j h' h => ?_⟩
            rcases Nat.lt_or_eq_of_le (Nat.le_of_lt_succ h) with hj | hj
            · exact Hall.out j h' hj
            · subst hj; exact ⟨Hc.out, fun h => absurd h h0⟩
          case measure => simp [intOf]; omega
      · have Hb := Lib.hid hb
        have He := Lib.hid he
        have HF := Lib.hid (nameB_neg s i hlt hc)
        by_cases h0 : i = 0
        · have h0' : ((i : Int) == 0) = true := by simp; omega
          clear hb hc he h0
          go_wp2_with (first | (go_at_call 46; refine (rletter_is _ _ false Hb.out).mono ?_; rintro e w' ⟨rfl, rfl⟩) | (go_at_call 45; refine (rdigit_is _ _ false He.out).mono ?_; rintro e w' ⟨rfl, rfl⟩))
          go_ret
          exact ⟨ret_bool (by rw [HR.out, HF.out]), rfl⟩
        · have h0' : ((i : Int) == 0) = false := by simp; omega
          clear hb hc he
          go_wp2_with (first | (go_at_call 46; refine (rletter_is _ _ false Hb.out).mono ?_; rintro e w' ⟨rfl, rfl⟩) | (go_at_call 45; refine (rdigit_is _ _ false He.out).mono ?_; rintro e w' ⟨rfl, rfl⟩))
          go_ret
          exact ⟨ret_bool (by rw [HR.out, HF.out]), rfl⟩
    · by_cases h0 : s.size = 0
      · have HF := Lib.hid (nameB_nil s h0)
        have h0' : ¬ 0 < (s.size : Int) := by omega
        have Hz := Lib.hid h0
        clear h0
        go_wp2
        go_ret
        exact ⟨ret_bool (by rw [HR.out, HF.out]; simp only [decide_eq_false_iff_not]; have := Hz.out; omega), rfl⟩
      · have HF := Lib.hid (nameB_pos s (by omega) (fun j h => Hall.out j h (by omega)))
        have h0' : 0 < (s.size : Int) := by omega
        clear h0
        go_wp2
        go_ret
        exact ⟨ret_bool (by rw [HR.out, HF.out]; simp only [decide_eq_true_eq]; omega), rfl⟩

/-! ### lists of strings -/
def hasB (strs : List Bytes) (l : Bytes) : Bool := strs.contains l
def strV (l : Bytes) : Value := .string (bs l)

set_option maxHeartbeats 1000000 in
theorem words_any (w : World) :
    Calls Try.prog 31 #[] w fun e w' => ∃ v, e = .returned v ∧ w'.ownsRow w.heap.size 9 1 v 9 (words.map strV) ∧ Below w.heap.size w w' := by
  go_enter Try.func31, Try.ntmps31
  go_wp2
  go_ret
  exact ⟨_, rfl, World.ownsRow_lit w _ 9 (Nat.le_refl _) (by decide) rfl, (Below.refl _ _).alloc (Nat.le_refl _) _⟩

set_option maxHeartbeats 1000000 in
theorem signs_any (w : World) :
    Calls Try.prog 42 #[] w fun e w' => ∃ v, e = .returned v ∧ w'.ownsRow w.heap.size 9 1 v 14 (signs.map strV) ∧ Below w.heap.size w w' := by
  go_enter Try.func42, Try.ntmps42
  go_wp2
  go_ret
  exact ⟨_, rfl, World.ownsRow_lit w _ 14 (Nat.le_refl _) (by decide) rfl, (Below.refl _ _).alloc (Nat.le_refl _) _⟩

theorem contains_at (strs : List Bytes) (l : Bytes) (i : Nat) (hi : i < strs.length) (h : strs[i] = l) : hasB strs l = true := by
  unfold hasB
  rw [List.contains_iff_mem, ← h]; exact List.getElem_mem _
theorem contains_not (strs : List Bytes) (l : Bytes) (h : ∀ j (h : j < strs.length), strs[j] ≠ l) : hasB strs l = false := by
  unfold hasB
  rw [Bool.eq_false_iff]
  intro hc
  rw [List.contains_iff_mem] at hc
  obtain ⟨j, hj, e⟩ := List.getElem_of_mem hc
  exact h j hj e

set_option maxHeartbeats 1000000 in
theorem has_any (strs : List Bytes) (v : Value) (s : ByteArray) (B : Nat) (w : World) (hn : strs.length ≤ 140737488351232) (hv : Sl w B 1 v strs.length (strs.map strV)) :
    Calls Try.prog 30 #[v, .string s] w fun e w' => e = .returned (.bool (hasB strs s.data.toList)) ∧ w = w' := by
  obtain ⟨R, hR⟩ : ∃ R, R = hasB strs s.data.toList := ⟨_, rfl⟩
  rw [← hR]
  have HR := Lib.hid hR
  clear hR
  obtain ⟨A, c, rfl⟩ := hv.form
  have HV := Lib.hid hv
  obtain ⟨n, hn'⟩ : ∃ n, n = strs.length := ⟨_, rfl⟩
  rw [← hn'] at hv hn ⊢
  have HN := Lib.hid hn'
  clear hn'
  go_enter Try.func30, Try.ntmps30
  go_wp2
  go_loop [8] (fun a => ∃ i : Nat, i ≤ n ∧ a = .int .i64 i ∧ ∀ j (h : j < strs.length), j < i → strs[j] ≠ s.data.toList) (fun a => n - (intOf a).toNat)
  case atStart => exact ⟨0, Nat.zero_le _, rfl, fun j _ h => by omega⟩
  case round =>
    obtain ⟨i, hi, rfl, hall⟩ := hrel
    have Hall := Lib.hid hall
    clear hall
    by_cases hlt : i < n
    · obtain ⟨b, o, rfl, hb, hc⟩ := hv.at_ (by omega)
      have hi' : i < strs.length := by rw [← HN.out]; exact hlt
      obtain ⟨x, hx⟩ : ∃ x, x = bs strs[i] := ⟨_, rfl⟩
      have hcell : w.cell? ⟨b, o + i, none⟩ = some (.string x) := by
        refine hc i _ ?_
        rw [List.getElem?_map, List.getElem?_eq_getElem hi', Option.map_some, hx]; rfl
      have Hx := Lib.hid hx
      have heq : (x.toList == s.toList) = true ↔ strs[i] = s.data.toList := by
        rw [beq_iff_eq, hx, bs_toList, ByteArray.toList_eq]
      have Heq := Lib.hid heq
      clear hx heq hc
      by_cases he : (x.toList == s.toList) = true
      · have HF := Lib.hid (contains_at strs s.data.toList i hi' (Heq.out.1 he))
        go_wp2
        go_ret
        exact ⟨ret_bool (by rw [HR.out, HF.out]), rfl⟩
      · have he' : (x.toList == s.toList) = false := by simpa using he
        have He := Lib.hid he
        clear he
        go_wp2
        go_round
        case rel =>
          refine ⟨i + 1, by omega, by go_num, fun j h' h => ?_⟩
          rcases Nat.lt_or_eq_of_le (Nat.le_of_lt_succ h) with hj | hj
          · exact Hall.out j h' hj
          · subst hj; exact fun h => He.out (Heq.out.2 h)
        case measure => simp [intOf]; omega
    · have HF := Lib.hid (contains_not strs s.data.toList (fun j h => Hall.out j h (by have := HN.out; omega)))
      go_wp2
      go_ret
      exact ⟨ret_bool (by rw [HR.out, HF.out]), rfl⟩

end Go.Proofs.Ytnfbmclaenodaaa
