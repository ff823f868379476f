/-
  Walks of the lexer's small functions: isDigit, isLetter, IsWord, HasPrefix, signLength, skip, next: for every string shorter than 2^47.
-/
import Derived.Test.YteneobpacobpdaaGreatDoorHy
import Derived.Test.YteneobpacobpdaaGreatDoorProg
import Derived.Test.YteneobpacobpdaaGreatDoorLxPlain
import Derived.WalkKit
import Derived.WalkSpells
import Derived.WalkLawsBesides
import Derived.Lib.Hide
set_option linter.unusedSimpArgs false
set_option linter.unusedVariables false
set_option maxRecDepth 100000
set_option maxHeartbeats 16000000
namespace Go.Proofs.YteneobpacobpdaaGreatDoor
open Go.RowKit Lx
theorem ret_bool {a b : Bool} (h : a = b) : Ending.returned (.bool a) = .returned (.bool b) := by rw [h]
theorem ret_int {k : IntKind} {a b : Int} (h : a = b) : Ending.returned (.int k a) = .returned (.int k b) := by rw [h]
def pre (p l : Bytes) : Bool := p.isPrefixOf l
def bs (l : Bytes) : ByteArray := ⟨l.toArray⟩
theorem bs_data (l : Bytes) : (bs l).data.toList = l := rfl
theorem bs_toList (l : Bytes) : (bs l).toList = l := by rw [ByteArray.toList_eq, bs_data]
theorem bs_size (l : Bytes) : (bs l).size = l.length := rfl
theorem eq_bs {s : ByteArray} {l : Bytes} (h : s.data.toList = l) : s = bs l := by
 cases s with
 | mk a => simp only [bs] at *; rw [← h]
theorem size_len (s : ByteArray) : s.data.toList.length = s.size := rfl
theorem get_list (s : ByteArray) (i : Nat) (h : i < s.size) : s.data.toList[i]'(by rw [size_len]; exact h) = s[i] := rfl
theorem drop_cons (s : ByteArray) (k : Nat) (h : k < s.size) : s.data.toList.drop k = s[k] :: s.data.toList.drop (k + 1) :=
 List.drop_eq_getElem_cons (by rw [size_len]; exact h)
theorem extract_drop (s : ByteArray) (k i : Nat) : (s.extract k i).data.toList = (s.data.toList.drop k).take (i - k) := by simp
theorem run_at (p : UInt8 → Bool) (s : ByteArray) (k i : Nat) (hki : k ≤ i) (hi : i ≤ s.size) (hall : ∀ j (h : j < i) (h' : j < s.size), k ≤ j → p s[j] = true) (hstop : ∀ h : i < s.size, p s[i] = false) :
  run p (s.data.toList.drop k) = i - k := by
 have hsz := size_len s
 refine run_of p _ _ (by simp only [List.length_drop]; omega) (fun j h => ?_) (fun h => ?_)
 ·rw [List.getElem_drop]; exact hall (k + j) (by omega) (by omega) (by omega)
 ·simp only [List.length_drop] at h
  have := hstop (by omega)
  rw [List.getElem_drop]
  have e : k + (i - k) = i := by omega
  simp only [e]
  exact this
theorem isDigit_any (c : UInt8) (w : World) :
  Calls Tryz.prog 63 #[.int .u8 (c.toNat : Int)] w fun e w' => e = .returned (.bool (dig c)) ∧ w = w' := by
 go_enter Tryz.func63, Tryz.ntmps63
 go_wp2
 all_goals
  go_ret
  refine ⟨ret_bool ?_, rfl⟩
  rw [Bool.eq_iff_iff]
  unfold dig
  simp
  try omega
theorem isDigit_yes (c : UInt8) (w : World) (h : dig c = true) :
  Calls Tryz.prog 63 #[.int .u8 (c.toNat : Int)] w fun e w' => e = .returned (.bool true) ∧ w = w' := by
 have := isDigit_any c w; rwa [h] at this
theorem isDigit_no (c : UInt8) (w : World) (h : dig c = false) :
  Calls Tryz.prog 63 #[.int .u8 (c.toNat : Int)] w fun e w' => e = .returned (.bool false) ∧ w = w' := by
 have := isDigit_any c w; rwa [h] at this
theorem isLetter_any (c : UInt8) (w : World) :
  Calls Tryz.prog 64 #[.int .u8 (c.toNat : Int)] w fun e w' => e = .returned (.bool (ltr c)) ∧ w = w' := by
 go_enter Tryz.func64, Tryz.ntmps64
 go_wp2
 all_goals
  go_ret
  refine ⟨ret_bool ?_, rfl⟩
  rw [Bool.eq_iff_iff]
  unfold ltr
  simp
  try omega
theorem isLetter_yes (c : UInt8) (w : World) (h : ltr c = true) :
  Calls Tryz.prog 64 #[.int .u8 (c.toNat : Int)] w fun e w' => e = .returned (.bool true) ∧ w = w' := by
 have := isLetter_any c w; rwa [h] at this
theorem isLetter_no (c : UInt8) (w : World) (h : ltr c = false) :
  Calls Tryz.prog 64 #[.int .u8 (c.toNat : Int)] w fun e w' => e = .returned (.bool false) ∧ w = w' := by
 have := isLetter_any c w; rwa [h] at this
theorem isWord_list (l : Bytes) : isWord l = (l == [116, 114, 117, 101] || l == [102, 97, 108, 115, 101] || l == [97, 110, 100] || l == [111, 114] || l == [110, 111, 116] || l == [105, 109, 112, 108, 105, 101, 115] || l == [105, 102, 102] || l == [102, 111, 114, 97, 108, 108] || l == [101, 120, 105, 115, 116, 115]) := by
 unfold isWord words
 simp only [List.contains_cons, List.contains_nil, Bool.or_false, Bool.or_assoc]
theorem isWord_any (s : ByteArray) (w : World) :
  Calls Tryz.prog 65 #[.string s] w fun e w' => e = .returned (.bool (isWord s.data.toList)) ∧ w = w' := by
 have hp : isWord s.data.toList = isWord s.toList := by rw [ByteArray.toList_eq]
 rw [hp, isWord_list]
 clear hp
 go_enter Tryz.func65, Tryz.ntmps65
 go_wp2
 all_goals
  go_ret
  refine ⟨ret_bool ?_, rfl⟩
  first
  |(simp only [*, Bool.or_true, Bool.true_or, Bool.or_false, Bool.false_or]; done)
  | simp_all
theorem litePrefix_any (s t : ByteArray) (w : World) (hs : s.size ≤ 140737488351232) (ht : t.size ≤ 140737488351232) :
  Calls Tryz.prog 93 #[.string s, .string t] w fun e w' => e = .returned (.bool (pre t.data.toList s.data.toList)) ∧ w = w' := by
 have hh : pre t.data.toList s.data.toList = true ↔ t.size ≤ s.size ∧ (s.extract 0 t.size) = t := by
  unfold pre
  rw [List.isPrefixOf_iff_prefix]
  constructor
  ·intro h
   refine ⟨by rw [← size_len, ← size_len]; exact h.length_le, ?_⟩
   refine WideShapes.bytes_inj ?_
   rw [extract_drop, List.drop_zero, Nat.sub_zero, ← size_len]
   exact (List.prefix_iff_eq_take.1 h).symm
  ·intro ⟨_, h⟩
   rw [← h, extract_drop, List.drop_zero]
   exact List.take_prefix _ _
 by_cases h : t.size ≤ s.size
 ·go_enter Tryz.func93, Tryz.ntmps93
  go_wp2
  go_ret
  refine ⟨ret_bool ?_, rfl⟩
  rw [Bool.eq_iff_iff, hh, beq_iff_eq, ByteArray.toList_eq, ByteArray.toList_eq]
  exact ⟨fun g => ⟨h, WideShapes.bytes_inj g⟩, fun g => by rw [g.2]⟩
 ·have hf : pre t.data.toList s.data.toList = false := by
   rw [Bool.eq_false_iff]; intro hc; exact h (hh.1 hc).1
  rw [hf]
  clear hh hf
  go_enter Tryz.func93, Tryz.ntmps93
  go_wp2
  go_ret
  exact ⟨rfl, rfl⟩
theorem hasPrefix_any (s t : ByteArray) (w : World) (hs : s.size ≤ 140737488351232) (ht : t.size ≤ 140737488351232) :
  Calls Tryz.prog 83 #[.string s, .string t] w fun e w' => e = .returned (.bool (pre t.data.toList s.data.toList)) ∧ w = w' := by
 go_enter Tryz.func83, Tryz.ntmps83
 go_wp2_with (go_at_call 93; refine (litePrefix_any _ _ _ hs ht).mono ?_; rintro e w' ⟨rfl, rfl⟩)
 go_ret
 exact ⟨rfl, rfl⟩
theorem hasPrefix_is (s t : ByteArray) (w : World) (b : Bool) (hs : s.size ≤ 140737488351232) (ht : t.size ≤ 140737488351232) (hb : pre t.data.toList s.data.toList = b) :
  Calls Tryz.prog 83 #[.string s, .string t] w fun e w' => e = .returned (.bool b) ∧ w = w' := by
 subst hb; exact hasPrefix_any s t w hs ht
theorem pre2 (c d a b : UInt8) (x : Bytes) : pre [a, b] (c :: d :: x) = (a == c && b == d) := by simp [pre, List.isPrefixOf]
theorem pre1 (c a b : UInt8) : pre [a, b] [c] = false := by simp [pre, List.isPrefixOf]
theorem pre0 (a b : UInt8) : pre [a, b] [] = false := by simp [pre, List.isPrefixOf]
theorem sg2_eq (c d : UInt8) : sg2 c d = ((pre [60, 62] [c, d] || pre [60, 61] [c, d]) || pre [62, 61] [c, d]) := by
 unfold sg2
 simp only [pre2]
 rw [Bool.eq_iff_iff]
 simp only [Bool.or_eq_true, Bool.and_eq_true, beq_iff_eq, ← UInt8.toNat_inj]
 simp
 omega
theorem signLen_pre (l : Bytes) : signLen l = if (pre [60, 62] l || pre [60, 61] l) || pre [62, 61] l then 2 else match l with | [] => 0 | c :: _ => if sg1 c then 1 else 0 := by
 match l with
 | [] => simp [signLen, pre0]
 | [c] => simp [signLen, pre1]
 | c :: d :: x =>
  have e : ∀ a b : UInt8, pre [a, b] (c :: d :: x) = pre [a, b] [c, d] := fun a b => by rw [pre2, pre2]
  rw [e, e, e, ← sg2_eq]
  simp [signLen]
theorem signLength_any (s : ByteArray) (w : World) (hs : s.size ≤ 140737488351232) (h0 : 0 < s.size) :
  Calls Tryz.prog 66 #[.string s] w fun e w' => e = .returned (.int .i64 (signLen s.data.toList)) ∧ w = w' := by
 have hl : s.data.toList = s[0] :: s.data.toList.drop 1 := by have := drop_cons s 0 h0; simpa using this
 have hq := signLen_pre s.data.toList
 by_cases h1 : pre [60, 62] s.data.toList = true
 ·have hr : signLen s.data.toList = 2 := by rw [hq, h1]; rfl
  rw [hr]
  have H1 := h_ h1
  clear h1 hq hr hl
  go_enter Tryz.func66, Tryz.ntmps66
  go_wp2_with (go_at_call 83; refine (hasPrefix_is _ _ _ true hs (by decide) H1.out).mono ?_; rintro e w' ⟨rfl, rfl⟩)
  go_ret
  exact ⟨rfl, rfl⟩
 by_cases h2 : pre [60, 61] s.data.toList = true
 ·have hr : signLen s.data.toList = 2 := by rw [hq, h2]; simp
  rw [hr]
  have H1 := h_ (Bool.eq_false_iff.2 h1)
  have H2 := h_ h2
  clear h1 h2 hq hr hl
  go_enter Tryz.func66, Tryz.ntmps66
  go_wp2_with fail
  refine (hasPrefix_is _ _ _ false hs (by decide) H1.out).mono ?_; rintro e w' ⟨rfl, rfl⟩
  go_wp2_with (go_at_call 83; refine (hasPrefix_is _ _ _ true hs (by decide) H2.out).mono ?_; rintro e w' ⟨rfl, rfl⟩)
  go_ret
  exact ⟨rfl, rfl⟩
 by_cases h3 : pre [62, 61] s.data.toList = true
 ·have hr : signLen s.data.toList = 2 := by rw [hq, h3]; simp
  rw [hr]
  have H1 := h_ (Bool.eq_false_iff.2 h1)
  have H2 := h_ (Bool.eq_false_iff.2 h2)
  have H3 := h_ h3
  clear h1 h2 h3 hq hr hl
  go_enter Tryz.func66, Tryz.ntmps66
  go_wp2_with fail
  refine (hasPrefix_is _ _ _ false hs (by decide) H1.out).mono ?_; rintro e w' ⟨rfl, rfl⟩
  go_wp2_with fail
  refine (hasPrefix_is _ _ _ false hs (by decide) H2.out).mono ?_; rintro e w' ⟨rfl, rfl⟩
  go_wp2_with (go_at_call 83; refine (hasPrefix_is _ _ _ true hs (by decide) H3.out).mono ?_; rintro e w' ⟨rfl, rfl⟩)
  go_ret
  exact ⟨rfl, rfl⟩
 have hr : signLen s.data.toList = if sg1 s[0] then 1 else 0 := by
  rw [hq, if_neg (by simp [h1, h2, h3])]
  rw [hl]
 obtain ⟨R, hR⟩ : ∃ R : Nat, R = if sg1 s[0] then 1 else 0 := ⟨_, rfl⟩
 rw [hr, ← hR]
 have H1 := h_ (Bool.eq_false_iff.2 h1)
 have H2 := h_ (Bool.eq_false_iff.2 h2)
 have H3 := h_ (Bool.eq_false_iff.2 h3)
 have HR := h_ hR
 clear h1 h2 h3 hq hr hl hR
 go_enter Tryz.func66, Tryz.ntmps66
 go_wp2_with fail
 refine (hasPrefix_is _ _ _ false hs (by decide) H1.out).mono ?_; rintro e w' ⟨rfl, rfl⟩
 go_wp2_with fail
 refine (hasPrefix_is _ _ _ false hs (by decide) H2.out).mono ?_; rintro e w' ⟨rfl, rfl⟩
 go_wp2_with fail
 refine (hasPrefix_is _ _ _ false hs (by decide) H3.out).mono ?_; rintro e w' ⟨rfl, rfl⟩
 go_wp2
 all_goals
  go_ret
  refine ⟨ret_int ?_, rfl⟩
  have hR := HR.out
  clear HR H1 H2 H3
  simp only [beq_iff_eq, beq_eq_false_iff_ne, ne_eq] at *
  first
  |(have e : sg1 s[0] = true := by unfold sg1; simp; omega
    rw [e] at hR; simp [hR])
  |(have e : sg1 s[0] = false := by unfold sg1; simp; omega
    rw [e] at hR; simp [hR])
end Go.Proofs.YteneobpacobpdaaGreatDoor
