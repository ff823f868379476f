/-
  formula.Valid and the reference's Valid: exactly the names of at most 16 bytes that are no words.
-/
import Derived.Test.YtkjbfomokdjbnaaDoorLxPlain
import Derived.Test.YtkjbfomokdjbnaaDoorFmZ
namespace Go.Proofs.YtkjbfomokdjbnaaDoor
open Go.RowKit Lx
set_option linter.unusedSimpArgs false
set_option linter.unusedVariables false
namespace Va
theorem ret_bool {a b : Bool} (h : a = b) : Ending.returned (.bool a) = .returned (.bool b) := by rw [h]
theorem ret_int {k : IntKind} {a b : Int} (h : a = b) : Ending.returned (.int k a) = .returned (.int k b) := by rw [h]

theorem size_len (s : ByteArray) : s.data.toList.length = s.size := rfl
theorem drop_cons (s : ByteArray) (k : Nat) (h : k < s.size) : s.data.toList.drop k = s[k] :: s.data.toList.drop (k + 1) :=
  List.drop_eq_getElem_cons (by rw [size_len]; exact h)
theorem isWord_list (l : Bytes) : isWord l = (l == [116, 114, 117, 101] || l == [102, 97, 108, 115, 101] || l == [97, 110, 100] || l == [111, 114] || l == [110, 111, 116] || l == [105, 109, 112, 108, 105, 101, 115] || l == [105, 102, 102] || l == [102, 111, 114, 97, 108, 108] || l == [101, 120, 105, 115, 116, 115]) := by
  unfold isWord words
  simp only [List.contains_cons, List.contains_nil, Bool.or_false, Bool.or_assoc]
def validB (l : Bytes) : Bool := decide (l.length ≤ 16) && (nameB l && !isWord l)

theorem fnameB_neg0 (s : ByteArray) (hj : 0 < s.size) (h : ltr s[0] = false) : nameB s.data.toList = false := by
  have e := drop_cons s 0 hj
  rw [List.drop_zero] at e
  rw [e]
  simp [nameB, h]
theorem fnameB_neg (s : ByteArray) (j : Nat) (hj : j < s.size) (h : aln s[j] = false) : nameB s.data.toList = false := by
  have e := drop_cons s 0 (by omega)
  rw [List.drop_zero] at e
  by_cases hj0 : j = 0
  · subst hj0
    refine fnameB_neg0 s hj ?_
    unfold aln at h
    simp at h
    exact h.1
  · have hm : s[j] ∈ s.data.toList.drop 1 := by
      rw [List.mem_iff_getElem]
      refine ⟨j - 1, by rw [List.length_drop, size_len]; omega, ?_⟩
      rw [List.getElem_drop]
      have e1 : 1 + (j - 1) = j := by omega
      simp only [e1]
      rfl
    have : (s.data.toList.drop 1).all aln = false := by
      rw [List.all_eq_false]
      exact ⟨_, hm, by rw [h]; decide⟩
    rw [e]
    show (ltr s[0] && (s.data.toList.drop 1).all aln) = false
    rw [this, Bool.and_false]
theorem fnameB_pos (s : ByteArray) (h0 : 0 < s.size) (h : ∀ j (h : j < s.size), aln s[j] = true ∧ (j = 0 → ltr s[j] = true)) : nameB s.data.toList = true := by
  have e := drop_cons s 0 h0
  rw [List.drop_zero] at e
  rw [e]
  show (ltr s[0] && (s.data.toList.drop 1).all aln) = true
  rw [(h 0 h0).2 rfl, Bool.true_and, List.all_eq_true]
  intro c hc
  obtain ⟨j, hj, rfl⟩ := List.getElem_of_mem (List.mem_of_mem_drop hc)
  exact (h j hj).1
theorem faln_cases (c : UInt8) : (ltr c = true ∧ aln c = true) ∨ (ltr c = false ∧ dig c = true ∧ aln c = true) ∨ (ltr c = false ∧ dig c = false ∧ aln c = false) := by
  unfold aln
  cases ltr c <;> cases dig c <;> simp

theorem ltr_int (c : UInt8) (h : ltr c = true) : (97 ≤ (c.toNat : Int) ∧ (c.toNat : Int) ≤ 122) ∨ (((c.toNat : Int) < 97 ∨ 122 < (c.toNat : Int)) ∧ 65 ≤ (c.toNat : Int) ∧ (c.toNat : Int) ≤ 90) ∨ ((c.toNat : Int) = 95) := by
  unfold ltr at h; simp at h; omega
theorem dig_int (c : UInt8) (h : dig c = true) : 48 ≤ (c.toNat : Int) ∧ (c.toNat : Int) ≤ 57 := by
  unfold dig at h; simp at h; omega
theorem nltr_int (c : UInt8) (h : ltr c = false) : ((c.toNat : Int) < 97 ∨ 122 < (c.toNat : Int)) ∧ ((c.toNat : Int) < 65 ∨ 90 < (c.toNat : Int)) ∧ ¬ (c.toNat : Int) = 95 := by
  unfold ltr at h; simp at h; omega
theorem ndig_int (c : UInt8) (h : dig c = false) : (c.toNat : Int) < 48 ∨ 57 < (c.toNat : Int) := by
  unfold dig at h; simp at h; omega

set_option maxHeartbeats 4000000 in
theorem valid_any (s : ByteArray) (w : World) (hs : s.size ≤ 9223372036854775807) :
    Calls Tryd.prog 47 #[.string s] w fun e w' => e = .returned (.bool (validB s.data.toList)) ∧ w = w' := by
  obtain ⟨R, hR⟩ : ∃ R, R = validB s.data.toList := ⟨_, rfl⟩
  rw [← hR]
  have HR := Lib.hid hR
  clear hR
  by_cases hr : 1 ≤ s.size ∧ s.size ≤ 16
  · obtain ⟨hr1, hr2⟩ := hr
    go_enter Tryd.func47, Tryd.ntmps47
    go_wp2
    go_loop [15] (fun a => ∃ i : Nat, i ≤ s.size ∧ a = .int .i64 i ∧ ∀ j (h : j < s.size), j < i → aln s[j] = true ∧ (j = 0 → ltr s[j] = true)) (fun a => s.size - (intOf a).toNat)
    case atStart => exact ⟨0, Nat.zero_le _, rfl, fun j _ h => by omega⟩
    case round =>
      obtain ⟨i, hi, rfl, hall⟩ := hrel
      have Hall := Lib.hid hall
      clear hall
      by_cases hlt : i < s.size
      · rcases faln_cases s[i] with ⟨hb, hc⟩ | ⟨hb, he, hc⟩ | ⟨hb, he, hc⟩
        · have Hb := Lib.hid hb
          have Hc := Lib.hid hc
          have HI := ltr_int _ hb
          clear hb hc
          rcases HI with ⟨h1, h2⟩ | ⟨h0, h1, h2⟩ | h1
          · go_wp2
            go_round
            case rel =>
              refine ⟨i + 1, by omega, by go_num, fun j h' h => ?_⟩
              rcases Nat.lt_or_eq_of_le (Nat.le_of_lt_succ h) with hj | hj
              · exact Hall.out j h' hj
              · subst hj; exact ⟨Hc.out, fun _ => Hb.out⟩
            case measure => simp [intOf]; omega
          · have h3 : (s[i].toNat : Int) < 97 := by omega
            clear h0
            go_wp2
            go_round
            case rel =>
              refine ⟨i + 1, by omega, by go_num, fun j h' h => ?_⟩
              rcases Nat.lt_or_eq_of_le (Nat.le_of_lt_succ h) with hj | hj
              · exact Hall.out j h' hj
              · subst hj; exact ⟨Hc.out, fun _ => Hb.out⟩
            case measure => simp [intOf]; omega
          · have h1' : ((s[i].toNat : Int) == 95) = true := by rw [beq_iff_eq]; exact h1
            have h3 : (s[i].toNat : Int) < 97 := by omega
            have h4 : 90 < (s[i].toNat : Int) := by omega
            clear h1
            go_wp2
            go_round
            case rel =>
              refine ⟨i + 1, by omega, by go_num, fun j h' h => ?_⟩
              rcases Nat.lt_or_eq_of_le (Nat.le_of_lt_succ h) with hj | hj
              · exact Hall.out j h' hj
              · subst hj; exact ⟨Hc.out, fun _ => Hb.out⟩
            case measure => simp [intOf]; omega
        · have Hb := Lib.hid hb
          have Hc := Lib.hid hc
          have HI := dig_int _ he
          obtain ⟨h1, h2⟩ := HI
          have h3 : (s[i].toNat : Int) < 97 := by omega
          have h4 : (s[i].toNat : Int) < 65 := by omega
          have h5 : ((s[i].toNat : Int) == 95) = false := by rw [beq_eq_false_iff_ne]; omega
          by_cases h0 : i = 0
          · have HF : Hid (nameB s.data.toList = false) := by subst h0; exact fnameB_neg0 s hlt hb
            have h0' : ¬ 0 < (i : Int) := by omega
            clear hb hc he h0
            go_wp2
            go_ret
            exact ⟨ret_bool (by rw [HR.out]; unfold validB; rw [HF.out]; simp), rfl⟩
          · have h0' : 0 < (i : Int) := by omega
            clear hb hc he
            go_wp2
            go_round
            case rel =>
              refine ⟨i + 1, by omega, by go_num, fun j h' h => ?_⟩
              rcases Nat.lt_or_eq_of_le (Nat.le_of_lt_succ h) with hj | hj
              · exact Hall.out j h' hj
              · subst hj; exact ⟨Hc.out, fun h => absurd h h0⟩
            case measure => simp [intOf]; omega
        · have HF := Lib.hid (fnameB_neg s i hlt hc)
          obtain ⟨h1, h2, h3⟩ := nltr_int _ hb
          have h4 := ndig_int _ he
          have h5 : ((s[i].toNat : Int) == 95) = false := by rw [beq_eq_false_iff_ne]; exact h3
          clear hb hc he h3
          rcases h1 with h1 | h1 <;> rcases h2 with h2 | h2 <;> rcases h4 with h4 | h4 <;> (try omega)
          all_goals
            go_wp2
            go_ret
            exact ⟨ret_bool (by rw [HR.out]; unfold validB; rw [HF.out]; simp), rfl⟩
      · have HF := Lib.hid (fnameB_pos s (by omega) (fun j h => Hall.out j h (by omega)))
        have HV : Hid (validB s.data.toList = !isWord s.data.toList) := by
          show _ = _
          unfold validB; rw [HF.out, size_len, decide_eq_true hr2]; simp
        have hp : isWord s.data.toList = isWord s.toList := by rw [ByteArray.toList_eq]
        rw [hp, isWord_list] at HV
        clear hp
        go_wp2
        all_goals
          go_ret
          refine ⟨ret_bool ?_, rfl⟩
          have hv := HV.out
          rw [HR.out, hv]
          first
          | (simp only [*, Bool.or_true, Bool.true_or, Bool.or_false, Bool.false_or]; done)
          | simp_all
  · have hf : validB s.data.toList = false := by
      unfold validB
      rw [size_len]
      by_cases h : s.size ≤ 16
      · have h0 : s.size = 0 := by omega
        have : s.data.toList = [] := List.eq_nil_of_length_eq_zero (by rw [size_len]; exact h0)
        rw [this]; simp [nameB]
      · simp [h]
    have HF := Lib.hid hf
    clear hf
    by_cases h16 : 16 < s.size
    · have h1 : ¬ (s.size : Int) < 1 := by omega
      go_enter Tryd.func47, Tryd.ntmps47
      go_wp2
      go_ret
      exact ⟨ret_bool (by rw [HR.out, HF.out]), rfl⟩
    · have h1 : (s.size : Int) < 1 := by omega
      go_enter Tryd.func47, Tryd.ntmps47
      go_wp2
      go_ret
      exact ⟨ret_bool (by rw [HR.out, HF.out]), rfl⟩

open Fm
/-- the words as the program's own texts -/
def wordS : List ByteArray := [⟨#[116, 114, 117, 101]⟩, ⟨#[102, 97, 108, 115, 101]⟩, ⟨#[97, 110, 100]⟩, ⟨#[111, 114]⟩, ⟨#[110, 111, 116]⟩, ⟨#[105, 109, 112, 108, 105, 101, 115]⟩, ⟨#[105, 102, 102]⟩, ⟨#[102, 111, 114, 97, 108, 108]⟩, ⟨#[101, 120, 105, 115, 116, 115]⟩]
theorem wordS_mem (s : ByteArray) : s ∈ wordS ↔ isWord s.data.toList = true := by
  have e : ∀ (t : ByteArray), s = t ↔ s.data.toList = t.data.toList := fun t => ⟨fun h => by rw [h], fun h => by
    cases s with
    | mk a => cases t with
      | mk b =>
        have : a = b := by cases a; cases b; simpa using h
        rw [this]⟩
  rw [isWord_list]
  unfold wordS
  simp only [List.mem_cons, List.not_mem_nil, or_false, e, Bool.or_eq_true, beq_iff_eq, or_assoc]
set_option maxHeartbeats 1000000 in
theorem words_any (w : World) : Calls Tryd.prog 55 #[] w fun e w' => ∃ v, e = .returned v ∧ StrsAt w' (Fr w w') v wordS ∧ Below w.heap.size w w' := by
  go_enter Tryd.func55, Tryd.ntmps55
  go_wp2
  go_ret
  refine ⟨_, rfl, ?_, (Below.refl _ w).alloc (Nat.le_refl _) _⟩
  refine ⟨⟨some ⟨w.heap.size, 0, none⟩, 9, rfl, Nat.le_refl _, rfl, fun _ => ⟨w.heap.size, 0, rfl, ⟨Nat.le_refl _, by simp⟩, fun j u hj => ?_⟩⟩, by decide⟩
  rw [Nat.zero_add, cell_new]
  simpa [wordS] using hj
theorem StrsAt.named {w : World} {S : Nat → Prop} {v : Value} {l : List ByteArray} (h : StrsAt w S v l) (n : Nat) (hn : n = l.length) : ∃ A c, v = .slice A n c := by
  obtain ⟨A, c, rfl⟩ := h.form; exact ⟨A, c, by rw [hn]⟩

set_option maxRecDepth 100000 in
set_option maxHeartbeats 8000000 in
theorem rvalid_any (s : ByteArray) (w : World) (hs : s.size ≤ 1000000) :
    Calls Tryd.prog 30 #[.string s] w fun e w' => e = .returned (.bool (validB s.data.toList)) ∧ Below w.heap.size w w' := by
  obtain ⟨R, hR⟩ : ∃ R, R = validB s.data.toList := ⟨_, rfl⟩
  rw [← hR]
  have HR := Lib.hid hR
  clear hR
  by_cases h0 : s.size < 1
  · have HF := Lib.hid (show R = false by
      rw [HR.out]; unfold validB
      have : s.data.toList = [] := List.eq_nil_of_length_eq_zero (by rw [size_len]; omega)
      rw [this]; simp [nameB])
    have h1 : (s.size : Int) < 1 := by omega
    go_enter Tryd.func30, Tryd.ntmps30
    go_wp2
    go_ret
    exact ⟨by rw [HF.out]; rfl, Below.refl _ w⟩
  · have h1 : ¬ (s.size : Int) < 1 := by omega
    by_cases h16 : 16 < s.size
    · have HF := Lib.hid (show R = false by rw [HR.out]; unfold validB; rw [size_len]; simp; omega)
      have h2 : (16 : Int) < s.size := by omega
      go_enter Tryd.func30, Tryd.ntmps30
      go_wp2
      go_ret
      exact ⟨by rw [HF.out]; rfl, Below.refl _ w⟩
    · have h2 : ¬ (16 : Int) < s.size := by omega
      obtain ⟨b, hb⟩ : ∃ b : Bool, b = isWord s.data.toList := ⟨_, rfl⟩
      have HHAS := Lib.hid (show ∀ (w' : World) (v : Value), StrsAt w' (Fr w w') v wordS → Calls Tryd.prog 54 #[v, .string s] w' fun e w2 => e = .returned (.bool b) ∧ w' = w2 from fun w' v hv => has_any wordS v s _ w' hv b (by rw [wordS_mem, hb]))
      have HB := Lib.hid hb
      clear hb
      cases b
      · go_enter Tryd.func30, Tryd.ntmps30
        go_wp2_with (first
          | (go_at_call 55; refine (words_any w).mono ?_; rintro e w1 ⟨v1, rfl, hv1, hb1⟩; have HV1 := Lib.hid hv1; have HB1 := Lib.hid hb1; clear hv1 hb1)
          | (go_at_call 54; refine (HHAS.out _ _ HV1.out).mono ?_; rintro e w2 ⟨rfl, rfl⟩))
        go_loop [3] (fun a => ∃ i : Nat, i ≤ s.size ∧ a = .int .i64 i ∧ Hid (∀ j (h : j < s.size), j < i → aln s[j] = true ∧ (j = 0 → ltr s[j] = true))) (fun a => s.size - (intOf a).toNat)
        case atStart => exact ⟨0, Nat.zero_le _, rfl, Lib.hid (fun j _ h => by omega)⟩
        case round =>
          obtain ⟨i, hi, rfl, Hall⟩ := hrel
          by_cases hlt : i < s.size
          · rcases faln_cases s[i] with ⟨hb, hc⟩ | ⟨hb, he, hc⟩ | ⟨hb, he, hc⟩
            · have Hb := Lib.hid hb
              have Hc := Lib.hid hc
              have HI := ltr_int _ hb
              have HN := Lib.hid (show ∀ j (h : j < s.size), j < i + 1 → aln s[j] = true ∧ (j = 0 → ltr s[j] = true) from fun j h' h => by
                rcases Nat.lt_or_eq_of_le (Nat.le_of_lt_succ h) with hj | hj
                · exact Hall.out j h' hj
                · subst hj; exact ⟨Hc.out, fun _ => Hb.out⟩)
              clear hb hc
              rcases HI with ⟨h1', h2'⟩ | ⟨h0', h1', h2'⟩ | h1'
              · go_wp2
                go_round
                case rel => exact ⟨i + 1, by omega, by go_num, HN⟩
                case measure => simp [intOf]; omega
              · have h3 : (s[i].toNat : Int) < 97 := by omega
                clear h0'
                go_wp2
                go_round
                case rel => exact ⟨i + 1, by omega, by go_num, HN⟩
                case measure => simp [intOf]; omega
              · have h1'' : ((s[i].toNat : Int) == 95) = true := by rw [beq_iff_eq]; exact h1'
                have h3 : (s[i].toNat : Int) < 97 := by omega
                have h4 : 90 < (s[i].toNat : Int) := by omega
                clear h1'
                go_wp2
                go_round
                case rel => exact ⟨i + 1, by omega, by go_num, HN⟩
                case measure => simp [intOf]; omega
            · have Hb := Lib.hid hb
              have Hc := Lib.hid hc
              obtain ⟨h1', h2'⟩ := dig_int _ he
              have h3 : (s[i].toNat : Int) < 97 := by omega
              have h4 : (s[i].toNat : Int) < 65 := by omega
              have h5 : ((s[i].toNat : Int) == 95) = false := by rw [beq_eq_false_iff_ne]; omega
              by_cases hi0 : i = 0
              · have HF : Hid (R = false) := by
                  subst hi0
                  exact Lib.hid (by rw [HR.out]; unfold validB; rw [fnameB_neg0 s hlt hb]; simp)
                subst hi0
                clear hb hc he
                go_wp2
                go_ret
                exact ⟨by rw [HF.out]; rfl, HB1.out⟩
              · have HN := Lib.hid (show ∀ j (h : j < s.size), j < i + 1 → aln s[j] = true ∧ (j = 0 → ltr s[j] = true) from fun j h' h => by
                  rcases Nat.lt_or_eq_of_le (Nat.le_of_lt_succ h) with hj | hj
                  · exact Hall.out j h' hj
                  · subst hj; exact ⟨Hc.out, fun h => absurd h hi0⟩)
                have hi0' : ((i : Int) == 0) = false := by simp; omega
                clear hb hc he hi0
                go_wp2
                go_round
                case rel => exact ⟨i + 1, by omega, by go_num, HN⟩
                case measure => simp [intOf]; omega
            · have HF := Lib.hid (show R = false by rw [HR.out]; unfold validB; rw [fnameB_neg s i hlt hc]; simp)
              obtain ⟨h1', h2', h3'⟩ := nltr_int _ hb
              have h4' := ndig_int _ he
              have h5 : ((s[i].toNat : Int) == 95) = false := by rw [beq_eq_false_iff_ne]; exact h3'
              clear hb hc he h3'
              by_cases hi0 : i = 0
              · have hi0t : ((i : Int) == 0) = true := by simp; omega
                clear hi0
                rcases h1' with h1' | h1' <;> rcases h2' with h2' | h2' <;> rcases h4' with h4' | h4' <;> (try omega)
                all_goals
                  try (have a1 : 97 ≤ (s[i].toNat : Int) := by omega)
                  try (have a2 : 65 ≤ (s[i].toNat : Int) := by omega)
                  try (have d1 : decide ((s[i].toNat : Int) ≤ 122) = false := by (simp; omega))
                  try (have d2 : decide ((s[i].toNat : Int) ≤ 90) = false := by (simp; omega))
                  go_wp2
                  go_ret
                  exact ⟨by rw [HF.out]; rfl, HB1.out⟩
              · have hi0' : ((i : Int) == 0) = false := by simp; omega
                clear hi0
                rcases h1' with h1' | h1' <;> rcases h2' with h2' | h2' <;> rcases h4' with h4' | h4' <;> (try omega)
                all_goals
                  try (have a1 : 97 ≤ (s[i].toNat : Int) := by omega)
                  try (have a2 : 65 ≤ (s[i].toNat : Int) := by omega)
                  try (have d1 : decide ((s[i].toNat : Int) ≤ 122) = false := by (simp; omega))
                  try (have d2 : decide ((s[i].toNat : Int) ≤ 90) = false := by (simp; omega))
                  try (have a3 : 48 ≤ (s[i].toNat : Int) := by omega)
                  go_wp2
                  go_ret
                  exact ⟨by rw [HF.out]; rfl, HB1.out⟩
          · have HF := Lib.hid (show R = true by
              rw [HR.out]; unfold validB
              rw [fnameB_pos s (by omega) (fun j h => Hall.out j h (by omega)), ← HB.out, size_len]
              simp; omega)
            go_wp2
            go_ret
            exact ⟨by rw [HF.out]; rfl, HB1.out⟩
      · have HF := Lib.hid (show R = false by rw [HR.out]; unfold validB; rw [← HB.out]; simp)
        go_enter Tryd.func30, Tryd.ntmps30
        go_wp2_with (first
          | (go_at_call 55; refine (words_any w).mono ?_; rintro e w1 ⟨v1, rfl, hv1, hb1⟩; have HV1 := Lib.hid hv1; have HB1 := Lib.hid hb1; clear hv1 hb1)
          | (go_at_call 54; refine (HHAS.out _ _ HV1.out).mono ?_; rintro e w2 ⟨rfl, rfl⟩))
        go_ret
        exact ⟨by rw [HF.out]; rfl, HB1.out⟩
end Va
end Go.Proofs.YtkjbfomokdjbnaaDoor
