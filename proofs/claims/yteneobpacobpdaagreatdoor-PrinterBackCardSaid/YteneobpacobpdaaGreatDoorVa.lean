/-
  formula.Valid and the reference's Valid: exactly the names of at most 16 bytes that are no words.
-/
import Derived.Test.YteneobpacobpdaaGreatDoorHy
import Derived.Test.YteneobpacobpdaaGreatDoorLxPlain
import Derived.Test.YteneobpacobpdaaGreatDoorFmZ
set_option linter.unusedSimpArgs false
set_option linter.unusedVariables false
set_option maxRecDepth 100000
set_option maxHeartbeats 16000000
namespace Go.Proofs.YteneobpacobpdaaGreatDoor
open Go.RowKit Lx
namespace Va
theorem ret_bool {a b : Bool} (h : a = b) : Ending.returned (.bool a) = .returned (.bool b) := by rw [h]
theorem ret_int {k : IntKind} {a b : Int} (h : a = b) : Ending.returned (.int k a) = .returned (.int k b) := by rw [h]
def pre (p l : Bytes) : Bool := p.isPrefixOf l
def bs (l : Bytes) : ByteArray := ⟨l.toArray⟩
theorem bs_data (l : Bytes) : (bs l).data.toList = l := rfl
theorem bs_toList (l : Bytes) : (bs l).toList = l := by rw [ByteArray.toList_eq, bs_data]
theorem bs_size (l : Bytes) : (bs l).size = l.length := rfl
theorem eq_bs {s : ByteArray} {l : Bytes} (h : s.data.toList = l) : s = bs l := by
 cases s with
 | mk a => simp only [bs] at *; rw [← h]
theorem size_len (s : ByteArray) : s.data.toList.length = s.size := rfl
theorem get_list (s : ByteArray) (i : Nat) (h : i < s.size) : s.data.toList[i]'(by rw [size_len]; exact h) = s[i] := rfl
theorem drop_cons (s : ByteArray) (k : Nat) (h : k < s.size) : s.data.toList.drop k = s[k] :: s.data.toList.drop (k + 1) :=
 List.drop_eq_getElem_cons (by rw [size_len]; exact h)
theorem extract_drop (s : ByteArray) (k i : Nat) : (s.extract k i).data.toList = (s.data.toList.drop k).take (i - k) := by simp
theorem isWord_list (l : Bytes) : isWord l = (l == [116, 114, 117, 101] || l == [102, 97, 108, 115, 101] || l == [97, 110, 100] || l == [111, 114] || l == [110, 111, 116] || l == [105, 109, 112, 108, 105, 101, 115] || l == [105, 102, 102] || l == [102, 111, 114, 97, 108, 108] || l == [101, 120, 105, 115, 116, 115]) := by
 unfold isWord words
 simp only [List.contains_cons, List.contains_nil, Bool.or_false, Bool.or_assoc]
def validB (l : Bytes) : Bool := decide (l.length ≤ 16) && (nameB l && !isWord l)
theorem fnameB_neg0 (s : ByteArray) (hj : 0 < s.size) (h : ltr s[0] = false) : nameB s.data.toList = false := by
 have e := drop_cons s 0 hj
 rw [List.drop_zero] at e
 rw [e]
 simp [nameB, h]
theorem fnameB_neg (s : ByteArray) (j : Nat) (hj : j < s.size) (h : aln s[j] = false) : nameB s.data.toList = false := by
 have e := drop_cons s 0 (by omega)
 rw [List.drop_zero] at e
 by_cases hj0 : j = 0
 ·subst hj0
  refine fnameB_neg0 s hj ?_
  unfold aln at h
  simp at h
  exact h.1
 ·have hm : s[j] ∈ s.data.toList.drop 1 := by
   rw [List.mem_iff_getElem]
   refine ⟨j - 1, by rw [List.length_drop, size_len]; omega, ?_⟩
   rw [List.getElem_drop]
   have e1 : 1 + (j - 1) = j := by omega
   simp only [e1]
   rfl
  have : (s.data.toList.drop 1).all aln = false := by
   rw [List.all_eq_false]
   exact ⟨_, hm, by rw [h]; decide⟩
  rw [e]
  show (ltr s[0] && (s.data.toList.drop 1).all aln) = false
  rw [this, Bool.and_false]
theorem fnameB_pos (s : ByteArray) (h0 : 0 < s.size) (h : ∀ j (h : j < s.size), aln s[j] = true ∧ (j = 0 → ltr s[j] = true)) : nameB s.data.toList = true := by
 have e := drop_cons s 0 h0
 rw [List.drop_zero] at e
 rw [e]
 show (ltr s[0] && (s.data.toList.drop 1).all aln) = true
 rw [(h 0 h0).2 rfl, Bool.true_and, List.all_eq_true]
 intro c hc
 obtain ⟨j, hj, rfl⟩ := List.getElem_of_mem (List.mem_of_mem_drop hc)
 exact (h j hj).1
theorem faln_cases (c : UInt8) : (ltr c = true ∧ aln c = true) ∨ (ltr c = false ∧ dig c = true ∧ aln c = true) ∨ (ltr c = false ∧ dig c = false ∧ aln c = false) := by
 unfold aln
 cases ltr c <;> cases dig c <;> simp
theorem ltr_int (c : UInt8) (h : ltr c = true) : (97 ≤ (c.toNat : Int) ∧ (c.toNat : Int) ≤ 122) ∨ (((c.toNat : Int) < 97 ∨ 122 < (c.toNat : Int)) ∧ 65 ≤ (c.toNat : Int) ∧ (c.toNat : Int) ≤ 90) ∨ ((c.toNat : Int) = 95) := by
 unfold ltr at h; simp at h; omega
theorem dig_int (c : UInt8) (h : dig c = true) : 48 ≤ (c.toNat : Int) ∧ (c.toNat : Int) ≤ 57 := by
 unfold dig at h; simp at h; omega
theorem nltr_int (c : UInt8) (h : ltr c = false) : ((c.toNat : Int) < 97 ∨ 122 < (c.toNat : Int)) ∧ ((c.toNat : Int) < 65 ∨ 90 < (c.toNat : Int)) ∧ ¬ (c.toNat : Int) = 95 := by
 unfold ltr at h; simp at h; omega
theorem ndig_int (c : UInt8) (h : dig c = false) : (c.toNat : Int) < 48 ∨ 57 < (c.toNat : Int) := by
 unfold dig at h; simp at h; omega
theorem valid_any (s : ByteArray) (w : World) (hs : s.size ≤ 9223372036854775807) :
  Calls Tryz.prog 27 #[.string s] w fun e w' => e = .returned (.bool (validB s.data.toList)) ∧ w = w' := by
 obtain ⟨R, hR⟩ : ∃ R, R = validB s.data.toList := ⟨_, rfl⟩
 rw [← hR]
 have HR := h_ hR
 clear hR
 by_cases hr : 1 ≤ s.size ∧ s.size ≤ 16
 ·obtain ⟨hr1, hr2⟩ := hr
  go_enter Tryz.func27, Tryz.ntmps27
  go_wp2
  go_loop [15] (fun a => ∃ i : Nat, i ≤ s.size ∧ a = .int .i64 i ∧ ∀ j (h : j < s.size), j < i → aln s[j] = true ∧ (j = 0 → ltr s[j] = true)) (fun a => s.size - (intOf a).toNat)
  case atStart => exact ⟨0, Nat.zero_le _, rfl, fun j _ h => by omega⟩
  case round =>
   obtain ⟨i, hi, rfl, hall⟩ := hrel
   have Hall := h_ hall
   clear hall
   by_cases hlt : i < s.size
   ·rcases faln_cases s[i] with ⟨hb, hc⟩ | ⟨hb, he, hc⟩ | ⟨hb, he, hc⟩
    ·have Hb := h_ hb
     have Hc := h_ hc
     have HI := ltr_int _ hb
     clear hb hc
     rcases HI with ⟨h1, h2⟩ | ⟨h0, h1, h2⟩ | h1
     ·go_wp2
      go_round
      case rel =>
       refine ⟨i + 1, by omega, by go_num, fun j h' h => ?_⟩
       rcases Nat.lt_or_eq_of_le (Nat.le_of_lt_succ h) with hj | hj
       ·exact Hall.out j h' hj
       ·subst hj; exact ⟨Hc.out, fun _ => Hb.out⟩
      case measure => simp [intOf]; omega
     ·have h3 : (s[i].toNat : Int) < 97 := by omega
      clear h0
      go_wp2
      go_round
      case rel =>
       refine ⟨i + 1, by omega, by go_num, fun j h' h => ?_⟩
       rcases Nat.lt_or_eq_of_le (Nat.le_of_lt_succ h) with hj | hj
       ·exact Hall.out j h' hj
       ·subst hj; exact ⟨Hc.out, fun _ => Hb.out⟩
      case measure => simp [intOf]; omega
     ·have h1' : ((s[i].toNat : Int) == 95) = true := by rw [beq_iff_eq]; exact h1
      have h3 : (s[i].toNat : Int) < 97 := by omega
      have h4 : 90 < (s[i].toNat : Int) := by omega
      clear h1
      go_wp2
      go_round
      case rel =>
       refine ⟨i + 1, by omega, by go_num, fun j h' h => ?_⟩
       rcases Nat.lt_or_eq_of_le (Nat.le_of_lt_succ h) with hj | hj
       ·exact Hall.out j h' hj
       ·subst hj; exact ⟨Hc.out, fun _ => Hb.out⟩
      case measure => simp [intOf]; omega
    ·have Hb := h_ hb
     have Hc := h_ hc
     have HI := dig_int _ he
     obtain ⟨h1, h2⟩ := HI
     have h3 : (s[i].toNat : Int) < 97 := by omega
     have h4 : (s[i].toNat : Int) < 65 := by omega
     have h5 : ((s[i].toNat : Int) == 95) = false := by rw [beq_eq_false_iff_ne]; omega
     by_cases h0 : i = 0
     ·have HF : Hid (nameB s.data.toList = false) := by subst h0; exact fnameB_neg0 s hlt hb
      have h0' : ¬ 0 < (i : Int) := by omega
      clear hb hc he h0
      go_wp2
      go_ret
      exact ⟨ret_bool (by rw [HR.out]; unfold validB; rw [HF.out]; simp), rfl⟩
     ·have h0' : 0 < (i : Int) := by omega
      clear hb hc he
      go_wp2
      go_round
      case rel =>
       refine ⟨i + 1, by omega, by go_num, fun j h' h => ?_⟩
       rcases Nat.lt_or_eq_of_le (Nat.le_of_lt_succ h) with hj | hj
       ·exact Hall.out j h' hj
       ·subst hj; exact ⟨Hc.out, fun h => absurd h h0⟩
      case measure => simp [intOf]; omega
    ·have HF := h_ (fnameB_neg s i hlt hc)
     obtain ⟨h1, h2, h3⟩ := nltr_int _ hb
     have h4 := ndig_int _ he
     have h5 : ((s[i].toNat : Int) == 95) = false := by rw [beq_eq_false_iff_ne]; exact h3
     clear hb hc he h3
     rcases h1 with h1 | h1 <;> rcases h2 with h2 | h2 <;> rcases h4 with h4 | h4 <;> (try omega)
     all_goals
      go_wp2
      go_ret
      exact ⟨ret_bool (by rw [HR.out]; unfold validB; rw [HF.out]; simp), rfl⟩
   ·have HF := h_ (fnameB_pos s (by omega) (fun j h => Hall.out j h (by omega)))
    have HV : Hid (validB s.data.toList = !isWord s.data.toList) := by
     show _ = _
     unfold validB; rw [HF.out, size_len, decide_eq_true hr2]; simp
    have hp : isWord s.data.toList = isWord s.toList := by rw [ByteArray.toList_eq]
    rw [hp, isWord_list] at HV
    clear hp
    go_wp2
    all_goals
     go_ret
     refine ⟨ret_bool ?_, rfl⟩
     have hv := HV.out
     rw [HR.out, hv]
     first
     |(simp only [*, Bool.or_true, Bool.true_or, Bool.or_false, Bool.false_or]; done)
     | simp_all
 ·have hf : validB s.data.toList = false := by
   unfold validB
   rw [size_len]
   by_cases h : s.size ≤ 16
   ·have h0 : s.size = 0 := by omega
    have : s.data.toList = [] := List.eq_nil_of_length_eq_zero (by rw [size_len]; exact h0)
    rw [this]; simp [nameB]
   ·simp [h]
  have HF := h_ hf
  clear hf
  by_cases h16 : 16 < s.size
  ·have h1 : ¬ (s.size : Int) < 1 := by omega
   go_enter Tryz.func27, Tryz.ntmps27
   go_wp2
   go_ret
   exact ⟨ret_bool (by rw [HR.out, HF.out]), rfl⟩
  ·have h1 : (s.size : Int) < 1 := by omega
   go_enter Tryz.func27, Tryz.ntmps27
   go_wp2
   go_ret
   exact ⟨ret_bool (by rw [HR.out, HF.out]), rfl⟩
open Fm
theorem StrsAt.named {w : World} {S : Nat → Prop} {v : Value} {l : List ByteArray} (h : StrsAt w S v l) (n : Nat) (hn : n = l.length) : ∃ A c, v = .slice A n c := by
 obtain ⟨A, c, rfl⟩ := h.form; exact ⟨A, c, by rw [hn]⟩
end Va
end Go.Proofs.YteneobpacobpdaaGreatDoor
