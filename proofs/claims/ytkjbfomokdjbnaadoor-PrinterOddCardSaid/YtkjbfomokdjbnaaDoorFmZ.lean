/-
  The reference's Has, Free.
-/
import Derived.Test.YtkjbfomokdjbnaaDoorFmY
import Derived.Test.YtkjbfomokdjbnaaDoorApp
import Derived.Test.YtkjbfomokdjbnaaDoorOpn
import Derived.Deep.RegionLaw
namespace Go.Proofs.YtkjbfomokdjbnaaDoor
open Go.RowKit
set_option linter.unusedSimpArgs false
set_option linter.unusedVariables false
namespace Fm
attribute [local go_sem] run_store

set_option maxRecDepth 100000 in
set_option maxHeartbeats 2000000 in
theorem has_any (l : List ByteArray) (v : Value) (s : ByteArray) (S : Nat → Prop) (w : World) (hv : StrsAt w S v l) (r : Bool) (hr : r = true ↔ s ∈ l) :
    Calls Tryd.prog 54 #[v, .string s] w fun e w' => e = .returned (.bool r) ∧ w = w' := by
  obtain ⟨A1, c1, rfl⟩ := hv.form
  obtain ⟨n, hn⟩ : ∃ n, n = l.length := ⟨_, rfl⟩
  rw [← hn] at hv ⊢
  have hl1 : n ≤ 1000000 := by rw [hn]; exact hv.2
  have HV := Lib.hid hv
  have HN := Lib.hid hn
  have HR := Lib.hid hr
  clear hv hn hr
  go_enter Tryd.func54, Tryd.ntmps54
  go_wp2
  go_loop [8] (fun a_ => ∃ (i : Nat), i ≤ n ∧ a_ = .int .i64 i ∧ Hid (r = true ↔ s ∈ l.drop i)) (fun a_ => n - (intOf a_).toNat)
  case atStart => exact ⟨0, Nat.zero_le _, rfl, Lib.hid (by simpa using HR.out)⟩
  case round =>
    obtain ⟨i, hi, rfl, hrel⟩ := hrel
    by_cases hlt : i < n
    · obtain ⟨b, o, rfl, hb, hc⟩ := HV.out.at_ HN.out (by omega)
      obtain ⟨x, hx⟩ : ∃ x, l[i]? = some x := ⟨_, List.getElem?_eq_getElem (by have := HN.out; omega)⟩
      have g1 := hc i x hx
      have hstep := hrel.out
      rw [drop_at hx] at hstep
      have HST := Lib.hid hstep
      have hi1 : (0 : Int) ≤ i ∧ (i : Int) < n := by omega
      clear hc hx hstep hb
      by_cases hse : x = s
      · subst hse
        have HT := Lib.hid (show r = true from HST.out.2 (by simp))
        go_wp2
        go_ret
        exact ⟨by rw [HT.out]; rfl, rfl⟩
      · have hb0 : (x.toList == s.toList) = false := (Lib.bytes_beq_false_iff x s).2 hse
        have HST2 := Lib.hid (show r = true ↔ s ∈ l.drop (i + 1) by rw [HST.out, List.mem_cons]; exact ⟨fun h => h.resolve_left (fun e => hse e.symm), .inr⟩)
        clear hse
        go_wp2
        go_round
        case rel => exact ⟨i + 1, by omega, by go_num, HST2⟩
        case measure => simp [intOf]; omega
    · have HE := Lib.hid (show r = false by
        cases hh : r with
        | false => rfl
        | true => (have h := hrel.out.1 hh; rw [List.drop_eq_nil_of_le (by have := HN.out; omega)] at h; cases h))
      go_wp2
      go_ret
      exact ⟨by rw [HE.out]; rfl, rfl⟩

mutual
/-- the names that occur free, as the reference collects them -/
def freeR : Tr → List ByteArray → List ByteArray → List ByteArray
  | .mk h ks, bd, out => if h.k = 2 ∧ h.name ∉ bd ∧ h.name ∉ out then out ++ [h.name] else freeRL ks (if h.k = 15 then bd ++ [h.name] else bd) out
def freeRL : List Tr → List ByteArray → List ByteArray → List ByteArray
  | [], _, out => out
  | k :: ks, bd, out => freeRL ks bd (freeR k bd out)
end
theorem freeRL_append (a b : List Tr) (bd out : List ByteArray) : freeRL (a ++ b) bd out = freeRL b bd (freeRL a bd out) := by
  induction a generalizing out with
  | nil => rfl
  | cons k a ih =>
    show freeRL (k :: (a ++ b)) bd out = _
    conv => lhs; unfold freeRL
    conv => rhs; arg 3; unfold freeRL
    exact ih _
theorem freeRL_take (ks : List Tr) (i : Nat) (k : Tr) (h : ks[i]? = some k) (bd out : List ByteArray) : freeRL (ks.take (i + 1)) bd out = freeR k bd (freeRL (ks.take i) bd out) := by
  obtain ⟨hi, rfl⟩ := List.getElem?_eq_some_iff.1 h
  rw [List.take_succ_eq_append_getElem hi, freeRL_append]; rfl
mutual
theorem freeR_len : ∀ (t : Tr) (bd out : List ByteArray), (freeR t bd out).length ≤ out.length + nn t
  | .mk h ks, bd, out => by
    unfold freeR nn
    split
    · simp
    · have := freeRL_len ks (if h.k = 15 then bd ++ [h.name] else bd) out; omega
theorem freeRL_len : ∀ (ks : List Tr) (bd out : List ByteArray), (freeRL ks bd out).length ≤ out.length + nnL ks
  | [], bd, out => by unfold freeRL nnL; omega
  | k :: ks, bd, out => by
    unfold freeRL nnL
    have := freeRL_len ks bd (freeR k bd out)
    have := freeR_len k bd out
    omega
end

theorem tri_ne {a b : Nat} (h : a < b) : a ≠ b := by omega
/-- a list of names that reads so, nil if it is empty -/
def BdAt (w : World) (S : Nat → Prop) (v : Value) (l : List ByteArray) : Prop := StrsAt w S v l ∧ (l = [] → v = .slice none 0 0)

/-! fr_marker -/

theorem owns_cell {w : World} {b : Nat} {h : b < w.heap.size} : True := trivial
end Fm
end Go.Proofs.YtkjbfomokdjbnaaDoor
