/-
  ParserJoins: for every two texts the law returns true: two formulas in parentheses with a connective between are the formula of that connective. No condition.
-/
import Derived.Test.YtkjbfomokdjbnaaPbC
import Derived.Test.YtkjbfomokdjbnaaRows
import Derived.ProofKit
import Derived.OpenShut
import Derived.ShutString
import Derived.Deep.DeepCutAuto
namespace Go.Proofs.Ytkjbfomokdjbnaa.parserJoins
open Go.ChangeShapes Go.WideShapes Go.ChangeAt Go.RowKit Go.Proofs.Ytkjbfomokdjbnaa Go.Proofs.Ytkjbfomokdjbnaa.Lx Go.Proofs.Ytkjbfomokdjbnaa.Pa Go.Proofs.Ytkjbfomokdjbnaa.Fm
open Go.ChangeMaps (open_string shut_string)
set_option linter.unusedVariables false
set_option linter.unusedSimpArgs false

set_option maxRecDepth 100000 in
set_option maxHeartbeats 4000000 in
theorem big0 (s t : ByteArray) (c : Nat) (hs : s.size ≤ maxLen) (ht : t.size ≤ maxLen) (hc : c ≤ 255) (h : 500 < s.size) (w : World) :
    Calls Try.prog 4 #[.string s, .string t, .int .u8 (c : Int)] w fun e w' => e = .returned (.bool true) ∧ Below w.heap.size w w' := by
  go_enter Try.func4, Try.ntmps4
  go_wp2_with fail
  refine (awake_any _).mono ?_
  rintro e w1 ⟨rfl, hb1⟩
  have HB1 := Lib.hid hb1
  clear hb1
  go_wp2_with fail
  refine (awake_any _).mono ?_
  rintro e w2 ⟨rfl, hb2⟩
  have HB2 := Lib.hid (HB1.out.trans (hb2.mono HB1.out.size))
  clear hb2
  go_wp2
  go_ret
  exact ⟨rfl, HB2.out⟩

set_option maxRecDepth 100000 in
set_option maxHeartbeats 4000000 in
theorem big1 (s t : ByteArray) (c : Nat) (hs : s.size ≤ maxLen) (ht : t.size ≤ maxLen) (hc : c ≤ 255) (h0 : s.size ≤ 500) (h : 500 < t.size) (w : World) :
    Calls Try.prog 4 #[.string s, .string t, .int .u8 (c : Int)] w fun e w' => e = .returned (.bool true) ∧ Below w.heap.size w w' := by
  go_enter Try.func4, Try.ntmps4
  go_wp2_with fail
  refine (awake_any _).mono ?_
  rintro e w1 ⟨rfl, hb1⟩
  have HB1 := Lib.hid hb1
  clear hb1
  go_wp2_with fail
  refine (awake_any _).mono ?_
  rintro e w2 ⟨rfl, hb2⟩
  have HB2 := Lib.hid (HB1.out.trans (hb2.mono HB1.out.size))
  clear hb2
  go_wp2
  go_ret
  exact ⟨rfl, HB2.out⟩

set_option maxRecDepth 100000 in
set_option maxHeartbeats 4000000 in
theorem bad0 (s t : ByteArray) (c : Nat) (hs : s.size ≤ 500) (ht : t.size ≤ 500) (hc : c ≤ 255) (p e : Nat) (he : e ≠ 0) (hP : ParseR (.iff false) fm s.data.toList none p e) (w : World) :
    Calls Try.prog 4 #[.string s, .string t, .int .u8 (c : Int)] w fun e w' => e = .returned (.bool true) ∧ Below w.heap.size w w' := by
  have hene : ((e : Int) != 0) = true := by rw [bne_iff_ne]; omega
  have HP := Lib.hid (fun w' => Parse_walk s _ _ _ hP (by omega) w')
  obtain ⟨r1, p1, e1, hQ⟩ := parse_ends (.iff false) (by simp) fm t.data.toList
  have HQ := Lib.hid (fun w' => Parse_walk t _ _ _ hQ (by omega) w')
  clear hP hQ
  go_enter Try.func4, Try.ntmps4
  go_wp2_with fail
  refine (awake_any _).mono ?_
  rintro e w1 ⟨rfl, hb1⟩
  have HB1 := Lib.hid hb1
  clear hb1
  go_wp2_with fail
  refine (HP.out _).mono ?_
  rintro e w2 ⟨rfl, hb2⟩
  have HB2 := Lib.hid (HB1.out.trans (hb2.mono HB1.out.size))
  clear hb2
  go_wp2_with fail
  refine (HQ.out _).mono ?_
  rintro en w3 ⟨hq, hb3⟩
  have HB3 := Lib.hid (HB2.out.trans (hb3.mono HB2.out.size))
  clear hb3
  cases r1 with
  | none =>
    obtain rfl := hq
    go_wp2
    go_ret
    exact ⟨rfl, HB3.out⟩
  | some x =>
    obtain ⟨u, z, rfl, -⟩ := hq
    go_wp2
    go_ret
    exact ⟨rfl, HB3.out⟩

set_option maxRecDepth 100000 in
set_option maxHeartbeats 4000000 in
theorem bad1 (s t : ByteArray) (c : Nat) (hs : s.size ≤ 500) (ht : t.size ≤ 500) (hc : c ≤ 255) (f : Fo) (p0 : Nat) (hP0 : ParseR (.iff false) fm s.data.toList (some (.fo f)) p0 0) (p e : Nat) (he : e ≠ 0) (hP : ParseR (.iff false) fm t.data.toList none p e) (w : World) :
    Calls Try.prog 4 #[.string s, .string t, .int .u8 (c : Int)] w fun e w' => e = .returned (.bool true) ∧ Below w.heap.size w w' := by
  have hene : ((e : Int) != 0) = true := by rw [bne_iff_ne]; omega
  obtain ⟨-, -, -, -, -, -, -, -, hp0⟩ := parse_ok hP0
  subst hp0
  have HP0 := Lib.hid (fun w' => Parse_walk s _ _ _ hP0 (by omega) w')
  have HP := Lib.hid (fun w' => Parse_walk t _ _ _ hP (by omega) w')
  clear hP hP0
  go_enter Try.func4, Try.ntmps4
  go_wp2_with fail
  refine (awake_any _).mono ?_
  rintro e w1 ⟨rfl, hb1⟩
  have HB1 := Lib.hid hb1
  clear hb1
  go_wp2_with fail
  refine (HP0.out _).mono ?_
  rintro e w2 ⟨⟨u, z, rfl, hV⟩, hb2⟩
  have HB2 := Lib.hid (HB1.out.trans (hb2.mono HB1.out.size))
  clear hb2 hV
  go_wp2_with fail
  refine (HP.out _).mono ?_
  rintro e w3 ⟨rfl, hb3⟩
  have HB3 := Lib.hid (HB2.out.trans (hb3.mono HB2.out.size))
  clear hb3
  go_wp2
  go_ret
  exact ⟨rfl, HB3.out⟩

set_option maxRecDepth 100000 in
theorem join0 (u1 : TypeId) (v1 : Value) (u2 : TypeId) (v2 : Value) (w : World) : Calls Try.prog 12 #[.int .i64 0, .iface u1 v1, .iface u2 v2] w fun e w' => e = .returned (.iface 81 (.agg #[.iface u1 v1, .iface u2 v2])) ∧ w = w' := by
  go_enter Try.func12, Try.ntmps12
  go_wp2
  go_ret
  exact ⟨rfl, rfl⟩

set_option maxRecDepth 100000 in
theorem join1 (u1 : TypeId) (v1 : Value) (u2 : TypeId) (v2 : Value) (w : World) : Calls Try.prog 12 #[.int .i64 1, .iface u1 v1, .iface u2 v2] w fun e w' => e = .returned (.iface 82 (.agg #[.iface u1 v1, .iface u2 v2])) ∧ w = w' := by
  go_enter Try.func12, Try.ntmps12
  go_wp2
  go_ret
  exact ⟨rfl, rfl⟩

set_option maxRecDepth 100000 in
theorem join2 (u1 : TypeId) (v1 : Value) (u2 : TypeId) (v2 : Value) (w : World) : Calls Try.prog 12 #[.int .i64 2, .iface u1 v1, .iface u2 v2] w fun e w' => e = .returned (.iface 83 (.agg #[.iface u1 v1, .iface u2 v2])) ∧ w = w' := by
  go_enter Try.func12, Try.ntmps12
  go_wp2
  go_ret
  exact ⟨rfl, rfl⟩

set_option maxRecDepth 100000 in
theorem join3 (u1 : TypeId) (v1 : Value) (u2 : TypeId) (v2 : Value) (w : World) : Calls Try.prog 12 #[.int .i64 3, .iface u1 v1, .iface u2 v2] w fun e w' => e = .returned (.iface 84 (.agg #[.iface u1 v1, .iface u2 v2])) ∧ w = w' := by
  go_enter Try.func12, Try.ntmps12
  go_wp2
  go_ret
  exact ⟨rfl, rfl⟩

set_option maxRecDepth 100000 in
set_option maxHeartbeats 4000000 in
theorem good0 (s t : ByteArray) (c : Nat) (hs : s.size ≤ 500) (ht : t.size ≤ 500) (hc : c ≤ 255) (hk : c % 4 = 0) (f g : Fo) (p q : Nat) (hP : ParseR (.iff false) fm s.data.toList (some (.fo f)) p 0) (hQ : ParseR (.iff false) fm t.data.toList (some (.fo g)) q 0) (w : World) :
    Calls Try.prog 4 #[.string s, .string t, .int .u8 (c : Int)] w fun e w' => e = .returned (.bool true) ∧ Below w.heap.size w w' := by
  have hki : (c : Int) % 4 = 0 := by omega
  obtain ⟨-, -, -, -, -, -, -, -, hp0⟩ := parse_ok hP
  subst hp0
  obtain ⟨-, -, -, -, -, -, -, -, hq0⟩ := parse_ok hQ
  subst hq0
  have HP := Lib.hid (fun w' => Parse_walk s _ _ _ hP (by omega) w')
  have HQ := Lib.hid (fun w' => Parse_walk t _ _ _ hQ (by omega) w')
  have s1 : (⟨#[40]⟩ ++ s : ByteArray).size = s.size + 1 := by rw [ByteArray.size_append]; show 1 + _ = _; omega
  have s2 : (⟨#[40]⟩ ++ s ++ ⟨#[41, 32]⟩ : ByteArray).size = s.size + 3 := by rw [ByteArray.size_append, s1]; rfl
  have s3 : (⟨#[40]⟩ ++ s ++ ⟨#[41, 32]⟩ ++ ⟨#[97, 110, 100]⟩ : ByteArray).size = s.size + 6 := by rw [ByteArray.size_append, s2]; rfl
  have s4 : (⟨#[40]⟩ ++ s ++ ⟨#[41, 32]⟩ ++ ⟨#[97, 110, 100]⟩ ++ ⟨#[32, 40]⟩ : ByteArray).size = s.size + 8 := by rw [ByteArray.size_append, s3]; rfl
  have s5 : (⟨#[40]⟩ ++ s ++ ⟨#[41, 32]⟩ ++ ⟨#[97, 110, 100]⟩ ++ ⟨#[32, 40]⟩ ++ t : ByteArray).size = s.size + 8 + t.size := by rw [ByteArray.size_append, s4]
  have s6 : (⟨#[40]⟩ ++ s ++ ⟨#[41, 32]⟩ ++ ⟨#[97, 110, 100]⟩ ++ ⟨#[32, 40]⟩ ++ t ++ ⟨#[41]⟩ : ByteArray).size = s.size + 8 + t.size + 1 := by rw [ByteArray.size_append, s5]; rfl
  have gA : Gives (⟨#[40]⟩ ++ s ++ ⟨#[41, 32]⟩ ++ ⟨#[97, 110, 100]⟩ ++ ⟨#[32, 40]⟩ ++ t ++ ⟨#[41]⟩ : ByteArray).data.toList (joinF 0 f g) := by
    have e : (⟨#[40]⟩ ++ s ++ ⟨#[41, 32]⟩ ++ ⟨#[97, 110, 100]⟩ ++ ⟨#[32, 40]⟩ ++ t ++ ⟨#[41]⟩ : ByteArray).data.toList = 40 :: (s.data.toList ++ 41 :: 32 :: (opW 0 ++ 32 :: 40 :: (t.data.toList ++ [41]))) := by simp [ByteArray.data_append, opW, wAnd, wOr, wImplies, wIff]
    rw [e]; exact gives_join 0 (by omega) hP hQ hs ht
  have HGA := Lib.hid (fun w' => gives_walk _ _ gA (by rw [s6]; omega) w')
  have HS6 := Lib.hid s6
  clear hP hQ gA
  go_enter Try.func4, Try.ntmps4
  go_wp2_with fail
  refine (awake_any _).mono ?_
  rintro e w1 ⟨rfl, hb1⟩
  have HB1 := Lib.hid hb1
  clear hb1
  go_wp2_with fail
  refine (HP.out _).mono ?_
  rintro e w2 ⟨⟨u, z, rfl, hV⟩, hb2⟩
  have HB2 := Lib.hid (HB1.out.trans (hb2.mono HB1.out.size))
  have HF2 := Lib.hid (show FoAt w2 (fun k => k < w2.heap.size) f (.iface u z) from hV.1)
  clear hb2 hV
  go_wp2_with fail
  refine (HQ.out _).mono ?_
  rintro e w3 ⟨⟨u', z', rfl, hV⟩, hb3⟩
  have HB3 := Lib.hid (HB2.out.trans (hb3.mono HB2.out.size))
  have HF3 := Lib.hid (FoAt.up HF2.out hb3)
  have HG3 := Lib.hid (show FoAt w3 (fun k => k < w3.heap.size) g (.iface u' z') from hV.1)
  clear hb3 hV
  have HBA := Lib.hid (show Below w3.heap.size w3 (w3.alloc (.cells #[.string ⟨#[97, 110, 100]⟩, .string ⟨#[111, 114]⟩, .string ⟨#[105, 109, 112, 108, 105, 101, 115]⟩, .string ⟨#[105, 102, 102]⟩] 9)) from (Below.refl _ w3).alloc (Nat.le_refl _) _)
  go_wp2_with fail
  refine (HGA.out _).mono ?_
  rintro e w4 ⟨va, pa, xa, rfl, hoa, hxa, hb4⟩
  have HB34 := Lib.hid (HBA.out.trans (hb4.mono HBA.out.size))
  have HB4 := Lib.hid (HB3.out.trans (HB34.out.mono HB3.out.size))
  have HF4 := Lib.hid (FoAt.up HF3.out HB34.out)
  have HG4 := Lib.hid (FoAt.up HG3.out HB34.out)
  clear hb4
  rcases hxa with ⟨rfl, ⟨ua, za, rfl⟩, hFa, hSa⟩ | ⟨rfl, rfl, qa, hqa⟩
  · have HSM := Lib.hid (same_true (joinF 0 f g) (.iface ua za) (.iface 81 (.agg #[.iface u z, .iface u' z'])) _ hFa ⟨_, _, rfl, HF4.out, HG4.out⟩ hSa)
    have HJ := Lib.hid (join0 u z u' z')
    clear hFa hSa
    go_wp2_with (go_at_call 12; refine (HJ.out _).mono ?_; rintro e w5 ⟨rfl, rfl⟩)
    refine HSM.out.mono ?_
    rintro e w6 ⟨rfl, hb6⟩
    have HB6 := Lib.hid (HB4.out.trans (hb6.mono HB4.out.size))
    clear hb6
    go_wp2
    go_ret
    exact ⟨rfl, HB6.out⟩
  · have HSM := Lib.hid (fun w' => refused_any _ qa hqa (by rw [HS6.out]; omega) w')
    clear hqa
    go_wp2_with fail
    refine (HSM.out _).mono ?_
    rintro e w6 ⟨rfl, hb6⟩
    have HB6 := Lib.hid (HB4.out.trans (hb6.mono HB4.out.size))
    clear hb6
    go_wp2
    go_ret
    exact ⟨rfl, HB6.out⟩

set_option maxRecDepth 100000 in
set_option maxHeartbeats 4000000 in
theorem good1 (s t : ByteArray) (c : Nat) (hs : s.size ≤ 500) (ht : t.size ≤ 500) (hc : c ≤ 255) (hk : c % 4 = 1) (f g : Fo) (p q : Nat) (hP : ParseR (.iff false) fm s.data.toList (some (.fo f)) p 0) (hQ : ParseR (.iff false) fm t.data.toList (some (.fo g)) q 0) (w : World) :
    Calls Try.prog 4 #[.string s, .string t, .int .u8 (c : Int)] w fun e w' => e = .returned (.bool true) ∧ Below w.heap.size w w' := by
  have hki : (c : Int) % 4 = 1 := by omega
  obtain ⟨-, -, -, -, -, -, -, -, hp0⟩ := parse_ok hP
  subst hp0
  obtain ⟨-, -, -, -, -, -, -, -, hq0⟩ := parse_ok hQ
  subst hq0
  have HP := Lib.hid (fun w' => Parse_walk s _ _ _ hP (by omega) w')
  have HQ := Lib.hid (fun w' => Parse_walk t _ _ _ hQ (by omega) w')
  have s1 : (⟨#[40]⟩ ++ s : ByteArray).size = s.size + 1 := by rw [ByteArray.size_append]; show 1 + _ = _; omega
  have s2 : (⟨#[40]⟩ ++ s ++ ⟨#[41, 32]⟩ : ByteArray).size = s.size + 3 := by rw [ByteArray.size_append, s1]; rfl
  have s3 : (⟨#[40]⟩ ++ s ++ ⟨#[41, 32]⟩ ++ ⟨#[111, 114]⟩ : ByteArray).size = s.size + 5 := by rw [ByteArray.size_append, s2]; rfl
  have s4 : (⟨#[40]⟩ ++ s ++ ⟨#[41, 32]⟩ ++ ⟨#[111, 114]⟩ ++ ⟨#[32, 40]⟩ : ByteArray).size = s.size + 7 := by rw [ByteArray.size_append, s3]; rfl
  have s5 : (⟨#[40]⟩ ++ s ++ ⟨#[41, 32]⟩ ++ ⟨#[111, 114]⟩ ++ ⟨#[32, 40]⟩ ++ t : ByteArray).size = s.size + 7 + t.size := by rw [ByteArray.size_append, s4]
  have s6 : (⟨#[40]⟩ ++ s ++ ⟨#[41, 32]⟩ ++ ⟨#[111, 114]⟩ ++ ⟨#[32, 40]⟩ ++ t ++ ⟨#[41]⟩ : ByteArray).size = s.size + 7 + t.size + 1 := by rw [ByteArray.size_append, s5]; rfl
  have gA : Gives (⟨#[40]⟩ ++ s ++ ⟨#[41, 32]⟩ ++ ⟨#[111, 114]⟩ ++ ⟨#[32, 40]⟩ ++ t ++ ⟨#[41]⟩ : ByteArray).data.toList (joinF 1 f g) := by
    have e : (⟨#[40]⟩ ++ s ++ ⟨#[41, 32]⟩ ++ ⟨#[111, 114]⟩ ++ ⟨#[32, 40]⟩ ++ t ++ ⟨#[41]⟩ : ByteArray).data.toList = 40 :: (s.data.toList ++ 41 :: 32 :: (opW 1 ++ 32 :: 40 :: (t.data.toList ++ [41]))) := by simp [ByteArray.data_append, opW, wAnd, wOr, wImplies, wIff]
    rw [e]; exact gives_join 1 (by omega) hP hQ hs ht
  have HGA := Lib.hid (fun w' => gives_walk _ _ gA (by rw [s6]; omega) w')
  have HS6 := Lib.hid s6
  clear hP hQ gA
  go_enter Try.func4, Try.ntmps4
  go_wp2_with fail
  refine (awake_any _).mono ?_
  rintro e w1 ⟨rfl, hb1⟩
  have HB1 := Lib.hid hb1
  clear hb1
  go_wp2_with fail
  refine (HP.out _).mono ?_
  rintro e w2 ⟨⟨u, z, rfl, hV⟩, hb2⟩
  have HB2 := Lib.hid (HB1.out.trans (hb2.mono HB1.out.size))
  have HF2 := Lib.hid (show FoAt w2 (fun k => k < w2.heap.size) f (.iface u z) from hV.1)
  clear hb2 hV
  go_wp2_with fail
  refine (HQ.out _).mono ?_
  rintro e w3 ⟨⟨u', z', rfl, hV⟩, hb3⟩
  have HB3 := Lib.hid (HB2.out.trans (hb3.mono HB2.out.size))
  have HF3 := Lib.hid (FoAt.up HF2.out hb3)
  have HG3 := Lib.hid (show FoAt w3 (fun k => k < w3.heap.size) g (.iface u' z') from hV.1)
  clear hb3 hV
  have HBA := Lib.hid (show Below w3.heap.size w3 (w3.alloc (.cells #[.string ⟨#[97, 110, 100]⟩, .string ⟨#[111, 114]⟩, .string ⟨#[105, 109, 112, 108, 105, 101, 115]⟩, .string ⟨#[105, 102, 102]⟩] 9)) from (Below.refl _ w3).alloc (Nat.le_refl _) _)
  go_wp2_with fail
  refine (HGA.out _).mono ?_
  rintro e w4 ⟨va, pa, xa, rfl, hoa, hxa, hb4⟩
  have HB34 := Lib.hid (HBA.out.trans (hb4.mono HBA.out.size))
  have HB4 := Lib.hid (HB3.out.trans (HB34.out.mono HB3.out.size))
  have HF4 := Lib.hid (FoAt.up HF3.out HB34.out)
  have HG4 := Lib.hid (FoAt.up HG3.out HB34.out)
  clear hb4
  rcases hxa with ⟨rfl, ⟨ua, za, rfl⟩, hFa, hSa⟩ | ⟨rfl, rfl, qa, hqa⟩
  · have HSM := Lib.hid (same_true (joinF 1 f g) (.iface ua za) (.iface 82 (.agg #[.iface u z, .iface u' z'])) _ hFa ⟨_, _, rfl, HF4.out, HG4.out⟩ hSa)
    have HJ := Lib.hid (join1 u z u' z')
    clear hFa hSa
    go_wp2_with (go_at_call 12; refine (HJ.out _).mono ?_; rintro e w5 ⟨rfl, rfl⟩)
    refine HSM.out.mono ?_
    rintro e w6 ⟨rfl, hb6⟩
    have HB6 := Lib.hid (HB4.out.trans (hb6.mono HB4.out.size))
    clear hb6
    go_wp2
    go_ret
    exact ⟨rfl, HB6.out⟩
  · have HSM := Lib.hid (fun w' => refused_any _ qa hqa (by rw [HS6.out]; omega) w')
    clear hqa
    go_wp2_with fail
    refine (HSM.out _).mono ?_
    rintro e w6 ⟨rfl, hb6⟩
    have HB6 := Lib.hid (HB4.out.trans (hb6.mono HB4.out.size))
    clear hb6
    go_wp2
    go_ret
    exact ⟨rfl, HB6.out⟩

set_option maxRecDepth 100000 in
set_option maxHeartbeats 4000000 in
theorem good2 (s t : ByteArray) (c : Nat) (hs : s.size ≤ 500) (ht : t.size ≤ 500) (hc : c ≤ 255) (hk : c % 4 = 2) (f g : Fo) (p q : Nat) (hP : ParseR (.iff false) fm s.data.toList (some (.fo f)) p 0) (hQ : ParseR (.iff false) fm t.data.toList (some (.fo g)) q 0) (w : World) :
    Calls Try.prog 4 #[.string s, .string t, .int .u8 (c : Int)] w fun e w' => e = .returned (.bool true) ∧ Below w.heap.size w w' := by
  have hki : (c : Int) % 4 = 2 := by omega
  obtain ⟨-, -, -, -, -, -, -, -, hp0⟩ := parse_ok hP
  subst hp0
  obtain ⟨-, -, -, -, -, -, -, -, hq0⟩ := parse_ok hQ
  subst hq0
  have HP := Lib.hid (fun w' => Parse_walk s _ _ _ hP (by omega) w')
  have HQ := Lib.hid (fun w' => Parse_walk t _ _ _ hQ (by omega) w')
  have s1 : (⟨#[40]⟩ ++ s : ByteArray).size = s.size + 1 := by rw [ByteArray.size_append]; show 1 + _ = _; omega
  have s2 : (⟨#[40]⟩ ++ s ++ ⟨#[41, 32]⟩ : ByteArray).size = s.size + 3 := by rw [ByteArray.size_append, s1]; rfl
  have s3 : (⟨#[40]⟩ ++ s ++ ⟨#[41, 32]⟩ ++ ⟨#[105, 109, 112, 108, 105, 101, 115]⟩ : ByteArray).size = s.size + 10 := by rw [ByteArray.size_append, s2]; rfl
  have s4 : (⟨#[40]⟩ ++ s ++ ⟨#[41, 32]⟩ ++ ⟨#[105, 109, 112, 108, 105, 101, 115]⟩ ++ ⟨#[32, 40]⟩ : ByteArray).size = s.size + 12 := by rw [ByteArray.size_append, s3]; rfl
  have s5 : (⟨#[40]⟩ ++ s ++ ⟨#[41, 32]⟩ ++ ⟨#[105, 109, 112, 108, 105, 101, 115]⟩ ++ ⟨#[32, 40]⟩ ++ t : ByteArray).size = s.size + 12 + t.size := by rw [ByteArray.size_append, s4]
  have s6 : (⟨#[40]⟩ ++ s ++ ⟨#[41, 32]⟩ ++ ⟨#[105, 109, 112, 108, 105, 101, 115]⟩ ++ ⟨#[32, 40]⟩ ++ t ++ ⟨#[41]⟩ : ByteArray).size = s.size + 12 + t.size + 1 := by rw [ByteArray.size_append, s5]; rfl
  have gA : Gives (⟨#[40]⟩ ++ s ++ ⟨#[41, 32]⟩ ++ ⟨#[105, 109, 112, 108, 105, 101, 115]⟩ ++ ⟨#[32, 40]⟩ ++ t ++ ⟨#[41]⟩ : ByteArray).data.toList (joinF 2 f g) := by
    have e : (⟨#[40]⟩ ++ s ++ ⟨#[41, 32]⟩ ++ ⟨#[105, 109, 112, 108, 105, 101, 115]⟩ ++ ⟨#[32, 40]⟩ ++ t ++ ⟨#[41]⟩ : ByteArray).data.toList = 40 :: (s.data.toList ++ 41 :: 32 :: (opW 2 ++ 32 :: 40 :: (t.data.toList ++ [41]))) := by simp [ByteArray.data_append, opW, wAnd, wOr, wImplies, wIff]
    rw [e]; exact gives_join 2 (by omega) hP hQ hs ht
  have HGA := Lib.hid (fun w' => gives_walk _ _ gA (by rw [s6]; omega) w')
  have HS6 := Lib.hid s6
  clear hP hQ gA
  go_enter Try.func4, Try.ntmps4
  go_wp2_with fail
  refine (awake_any _).mono ?_
  rintro e w1 ⟨rfl, hb1⟩
  have HB1 := Lib.hid hb1
  clear hb1
  go_wp2_with fail
  refine (HP.out _).mono ?_
  rintro e w2 ⟨⟨u, z, rfl, hV⟩, hb2⟩
  have HB2 := Lib.hid (HB1.out.trans (hb2.mono HB1.out.size))
  have HF2 := Lib.hid (show FoAt w2 (fun k => k < w2.heap.size) f (.iface u z) from hV.1)
  clear hb2 hV
  go_wp2_with fail
  refine (HQ.out _).mono ?_
  rintro e w3 ⟨⟨u', z', rfl, hV⟩, hb3⟩
  have HB3 := Lib.hid (HB2.out.trans (hb3.mono HB2.out.size))
  have HF3 := Lib.hid (FoAt.up HF2.out hb3)
  have HG3 := Lib.hid (show FoAt w3 (fun k => k < w3.heap.size) g (.iface u' z') from hV.1)
  clear hb3 hV
  have HBA := Lib.hid (show Below w3.heap.size w3 (w3.alloc (.cells #[.string ⟨#[97, 110, 100]⟩, .string ⟨#[111, 114]⟩, .string ⟨#[105, 109, 112, 108, 105, 101, 115]⟩, .string ⟨#[105, 102, 102]⟩] 9)) from (Below.refl _ w3).alloc (Nat.le_refl _) _)
  go_wp2_with fail
  refine (HGA.out _).mono ?_
  rintro e w4 ⟨va, pa, xa, rfl, hoa, hxa, hb4⟩
  have HB34 := Lib.hid (HBA.out.trans (hb4.mono HBA.out.size))
  have HB4 := Lib.hid (HB3.out.trans (HB34.out.mono HB3.out.size))
  have HF4 := Lib.hid (FoAt.up HF3.out HB34.out)
  have HG4 := Lib.hid (FoAt.up HG3.out HB34.out)
  clear hb4
  rcases hxa with ⟨rfl, ⟨ua, za, rfl⟩, hFa, hSa⟩ | ⟨rfl, rfl, qa, hqa⟩
  · have HSM := Lib.hid (same_true (joinF 2 f g) (.iface ua za) (.iface 83 (.agg #[.iface u z, .iface u' z'])) _ hFa ⟨_, _, rfl, HF4.out, HG4.out⟩ hSa)
    have HJ := Lib.hid (join2 u z u' z')
    clear hFa hSa
    go_wp2_with (go_at_call 12; refine (HJ.out _).mono ?_; rintro e w5 ⟨rfl, rfl⟩)
    refine HSM.out.mono ?_
    rintro e w6 ⟨rfl, hb6⟩
    have HB6 := Lib.hid (HB4.out.trans (hb6.mono HB4.out.size))
    clear hb6
    go_wp2
    go_ret
    exact ⟨rfl, HB6.out⟩
  · have HSM := Lib.hid (fun w' => refused_any _ qa hqa (by rw [HS6.out]; omega) w')
    clear hqa
    go_wp2_with fail
    refine (HSM.out _).mono ?_
    rintro e w6 ⟨rfl, hb6⟩
    have HB6 := Lib.hid (HB4.out.trans (hb6.mono HB4.out.size))
    clear hb6
    go_wp2
    go_ret
    exact ⟨rfl, HB6.out⟩

set_option maxRecDepth 100000 in
set_option maxHeartbeats 4000000 in
theorem good3 (s t : ByteArray) (c : Nat) (hs : s.size ≤ 500) (ht : t.size ≤ 500) (hc : c ≤ 255) (hk : c % 4 = 3) (f g : Fo) (p q : Nat) (hP : ParseR (.iff false) fm s.data.toList (some (.fo f)) p 0) (hQ : ParseR (.iff false) fm t.data.toList (some (.fo g)) q 0) (w : World) :
    Calls Try.prog 4 #[.string s, .string t, .int .u8 (c : Int)] w fun e w' => e = .returned (.bool true) ∧ Below w.heap.size w w' := by
  have hki : (c : Int) % 4 = 3 := by omega
  obtain ⟨-, -, -, -, -, -, -, -, hp0⟩ := parse_ok hP
  subst hp0
  obtain ⟨-, -, -, -, -, -, -, -, hq0⟩ := parse_ok hQ
  subst hq0
  have HP := Lib.hid (fun w' => Parse_walk s _ _ _ hP (by omega) w')
  have HQ := Lib.hid (fun w' => Parse_walk t _ _ _ hQ (by omega) w')
  have s1 : (⟨#[40]⟩ ++ s : ByteArray).size = s.size + 1 := by rw [ByteArray.size_append]; show 1 + _ = _; omega
  have s2 : (⟨#[40]⟩ ++ s ++ ⟨#[41, 32]⟩ : ByteArray).size = s.size + 3 := by rw [ByteArray.size_append, s1]; rfl
  have s3 : (⟨#[40]⟩ ++ s ++ ⟨#[41, 32]⟩ ++ ⟨#[105, 102, 102]⟩ : ByteArray).size = s.size + 6 := by rw [ByteArray.size_append, s2]; rfl
  have s4 : (⟨#[40]⟩ ++ s ++ ⟨#[41, 32]⟩ ++ ⟨#[105, 102, 102]⟩ ++ ⟨#[32, 40]⟩ : ByteArray).size = s.size + 8 := by rw [ByteArray.size_append, s3]; rfl
  have s5 : (⟨#[40]⟩ ++ s ++ ⟨#[41, 32]⟩ ++ ⟨#[105, 102, 102]⟩ ++ ⟨#[32, 40]⟩ ++ t : ByteArray).size = s.size + 8 + t.size := by rw [ByteArray.size_append, s4]
  have s6 : (⟨#[40]⟩ ++ s ++ ⟨#[41, 32]⟩ ++ ⟨#[105, 102, 102]⟩ ++ ⟨#[32, 40]⟩ ++ t ++ ⟨#[41]⟩ : ByteArray).size = s.size + 8 + t.size + 1 := by rw [ByteArray.size_append, s5]; rfl
  have gA : Gives (⟨#[40]⟩ ++ s ++ ⟨#[41, 32]⟩ ++ ⟨#[105, 102, 102]⟩ ++ ⟨#[32, 40]⟩ ++ t ++ ⟨#[41]⟩ : ByteArray).data.toList (joinF 3 f g) := by
    have e : (⟨#[40]⟩ ++ s ++ ⟨#[41, 32]⟩ ++ ⟨#[105, 102, 102]⟩ ++ ⟨#[32, 40]⟩ ++ t ++ ⟨#[41]⟩ : ByteArray).data.toList = 40 :: (s.data.toList ++ 41 :: 32 :: (opW 3 ++ 32 :: 40 :: (t.data.toList ++ [41]))) := by simp [ByteArray.data_append, opW, wAnd, wOr, wImplies, wIff]
    rw [e]; exact gives_join 3 (by omega) hP hQ hs ht
  have HGA := Lib.hid (fun w' => gives_walk _ _ gA (by rw [s6]; omega) w')
  have HS6 := Lib.hid s6
  clear hP hQ gA
  go_enter Try.func4, Try.ntmps4
  go_wp2_with fail
  refine (awake_any _).mono ?_
  rintro e w1 ⟨rfl, hb1⟩
  have HB1 := Lib.hid hb1
  clear hb1
  go_wp2_with fail
  refine (HP.out _).mono ?_
  rintro e w2 ⟨⟨u, z, rfl, hV⟩, hb2⟩
  have HB2 := Lib.hid (HB1.out.trans (hb2.mono HB1.out.size))
  have HF2 := Lib.hid (show FoAt w2 (fun k => k < w2.heap.size) f (.iface u z) from hV.1)
  clear hb2 hV
  go_wp2_with fail
  refine (HQ.out _).mono ?_
  rintro e w3 ⟨⟨u', z', rfl, hV⟩, hb3⟩
  have HB3 := Lib.hid (HB2.out.trans (hb3.mono HB2.out.size))
  have HF3 := Lib.hid (FoAt.up HF2.out hb3)
  have HG3 := Lib.hid (show FoAt w3 (fun k => k < w3.heap.size) g (.iface u' z') from hV.1)
  clear hb3 hV
  have HBA := Lib.hid (show Below w3.heap.size w3 (w3.alloc (.cells #[.string ⟨#[97, 110, 100]⟩, .string ⟨#[111, 114]⟩, .string ⟨#[105, 109, 112, 108, 105, 101, 115]⟩, .string ⟨#[105, 102, 102]⟩] 9)) from (Below.refl _ w3).alloc (Nat.le_refl _) _)
  go_wp2_with fail
  refine (HGA.out _).mono ?_
  rintro e w4 ⟨va, pa, xa, rfl, hoa, hxa, hb4⟩
  have HB34 := Lib.hid (HBA.out.trans (hb4.mono HBA.out.size))
  have HB4 := Lib.hid (HB3.out.trans (HB34.out.mono HB3.out.size))
  have HF4 := Lib.hid (FoAt.up HF3.out HB34.out)
  have HG4 := Lib.hid (FoAt.up HG3.out HB34.out)
  clear hb4
  rcases hxa with ⟨rfl, ⟨ua, za, rfl⟩, hFa, hSa⟩ | ⟨rfl, rfl, qa, hqa⟩
  · have HSM := Lib.hid (same_true (joinF 3 f g) (.iface ua za) (.iface 84 (.agg #[.iface u z, .iface u' z'])) _ hFa ⟨_, _, rfl, HF4.out, HG4.out⟩ hSa)
    have HJ := Lib.hid (join3 u z u' z')
    clear hFa hSa
    go_wp2_with (go_at_call 12; refine (HJ.out _).mono ?_; rintro e w5 ⟨rfl, rfl⟩)
    refine HSM.out.mono ?_
    rintro e w6 ⟨rfl, hb6⟩
    have HB6 := Lib.hid (HB4.out.trans (hb6.mono HB4.out.size))
    clear hb6
    go_wp2
    go_ret
    exact ⟨rfl, HB6.out⟩
  · have HSM := Lib.hid (fun w' => refused_any _ qa hqa (by rw [HS6.out]; omega) w')
    clear hqa
    go_wp2_with fail
    refine (HSM.out _).mono ?_
    rintro e w6 ⟨rfl, hb6⟩
    have HB6 := Lib.hid (HB4.out.trans (hb6.mono HB4.out.size))
    clear hb6
    go_wp2
    go_ret
    exact ⟨rfl, HB6.out⟩

theorem small (s t : ByteArray) (c : Nat) (hs : s.size ≤ 500) (ht : t.size ≤ 500) (hc : c ≤ 255) (w : World) :
    Calls Try.prog 4 #[.string s, .string t, .int .u8 (c : Int)] w fun e w' => e = .returned (.bool true) ∧ Below w.heap.size w w' := by
  obtain ⟨r, p, e, hP⟩ := parse_ends (.iff false) (by simp) fm s.data.toList
  by_cases he : e = 0
  · subst he
    cases r with
    | none => exact (no_none hP).elim
    | some x =>
      obtain ⟨f, -, -, rfl, -⟩ := parse_ok hP
      obtain ⟨r', q, e', hQ⟩ := parse_ends (.iff false) (by simp) fm t.data.toList
      by_cases he' : e' = 0
      · subst he'
        cases r' with
        | none => exact (no_none hQ).elim
        | some y =>
          obtain ⟨g, -, -, rfl, -⟩ := parse_ok hQ
          have h4 : c % 4 = 0 ∨ c % 4 = 1 ∨ c % 4 = 2 ∨ c % 4 = 3 := by omega
          rcases h4 with h | h | h | h
          · exact good0 s t c hs ht hc h f g p q hP hQ w
          · exact good1 s t c hs ht hc h f g p q hP hQ w
          · exact good2 s t c hs ht hc h f g p q hP hQ w
          · exact good3 s t c hs ht hc h f g p q hP hQ w
      · obtain rfl : r' = none := parse_none hQ he'
        exact bad1 s t c hs ht hc f p hP q e' he' hQ w
  · obtain rfl : r = none := parse_none hP he
    exact bad0 s t c hs ht hc p e he hP w
theorem walk (s t : ByteArray) (c : Int) (hs : s.size ≤ maxLen) (ht : t.size ≤ maxLen) (hc : (Lit.int .u8 c).wf = true) (w : World) :
    Calls Try.prog 4 #[.string s, .string t, .int .u8 c] w fun e w' => e = .returned (.bool true) ∧ Below w.heap.size w w' := by
  have b2 := bounds_u8 hc
  obtain ⟨c, rfl⟩ := Int.eq_ofNat_of_zero_le b2.1
  have hc5 : c ≤ 255 := by omega
  by_cases h1 : 500 < s.size
  · exact big0 s t c hs ht hc5 h1 w
  · by_cases h2 : 500 < t.size
    · exact big1 s t c hs ht hc5 (by omega) h2 w
    · exact small s t c (by omega) (by omega) hc5 w

theorem own : ownKnob Try.prog.godebug = none := by kernel_rfl

set_option maxRecDepth 100000 in
theorem lifted (os : Os) (started : os.Started) (H : Type) (enc : TypeId × Value → H) :
    ReturnsInHanded {} Try.checked os 4 .any (Rows.parserJoinsSpec.pre6 enc Try.prog Try.f4 Rows.parserJoinsRow.domain false) (Rows.parserJoinsSpec.post enc Try.prog Try.f4 false true false false) := by
  refine returnsInHanded_of_change (C := Try.checked) own started (by kernel_rfl) Try.func4
    (ChangeSpec.witness6 (enc := enc) (C := Try.checked) false ⟨#[], #[.string ByteArray.empty, .string ByteArray.empty, .int .u8 0], []⟩ 8 (by kernel_rfl) (by kernel_rfl) (by kernel_rfl) (by kernel_rfl)) ?_
  intro W base args ds gs before hval0 hW hcnd _
  have hval : ∀ (j : Nat) t v, Try.f4.params[j]? = some t → args[j]? = some v → Value.okWide Try.prog W .any base t v := hval0
  have hW' := hW
  obtain ⟨p, q, hA0, hV, rfl, hfz, hnd⟩ := hW
  have hA : DataW.TrodAll enc Try.prog W 0 (fun _ => true) true Try.f4.params.toList args.toList ds p := hA0
  rw [Try.params4] at hA hval
  obtain ⟨v0, vs0, d0, ds0, p0, q0, hargs, rfl, rfl, h0, r0⟩ := trodAll_cons hA
  obtain ⟨v1, vs1, d1, ds1, p1, q1, rfl, rfl, rfl, h1, r1⟩ := trodAll_cons r0
  obtain ⟨v2, vs2, d2, ds2, p2, q2, rfl, rfl, rfl, h2, r2⟩ := trodAll_cons r1
  obtain ⟨rfl, rfl, rfl⟩ := trodAll_nil r2
  obtain rfl : args = #[v0, v1, v2] := by cases args; simp_all
  obtain ⟨rfl, rfl⟩ := trodVars_none hV
  obtain ⟨a0, rfl, rfl, rfl, w0⟩ := open_string Try.underlying9 (hval 0 9 v0 rfl rfl) h0
  obtain ⟨a1, rfl, rfl, rfl, w1⟩ := open_string Try.underlying9 (hval 1 9 v1 rfl rfl) h1
  obtain ⟨a2, rfl, rfl, rfl, w2⟩ := open_int Try.underlying5 (hval 2 5 v2 rfl rfl) h2
  clear hA0 hval0
  simp only [List.append_nil] at hW'
  refine (walk a0 a1 a2 w0 w1 w2 W ).mono fun e W' ⟨he, bel⟩ => ?_
  subst he
  exact ⟨_, rfl, _, _, _, [], _, [], hW', trodAll_mk1 (shut_bool Try.underlying4 _), (trodAll_cons_mk (shut_string Try.underlying9 w0) (trodAll_cons_mk (shut_string Try.underlying9 w1) (trodAll_cons_mk (shut_int Try.underlying5 w2) trodAll_mk0))), rfl, bel.frame _, fun h => by cases h⟩

theorem over : Rows.parserJoinsRow.holds Try.pinned (OpenSpec.ofChange Rows.parserJoinsSpec) :=
  OpenClaim.holds_of_wide 4 Try.f4 rfl rfl rfl rfl rfl rfl rfl ⟨rfl, rfl, rfl, rfl, rfl⟩ rfl rfl rfl rfl rfl (by kernel_rfl) Try.func4 (by kernel_rfl)
    (of_decide_eq_true (by kernel_rfl)) (by unfold Func.isWrapper; first | (rw [if_pos (by decide +kernel)]; kernel_rfl) | (rw [if_neg (by decide +kernel)]; exact ⟨rfl, rfl⟩))
    (fun os started H enc _ => lifted os started H enc)

/-- THE STATEMENT -/
theorem proved : Rows.ParserJoinsSaid := over
end Go.Proofs.Ytkjbfomokdjbnaa.parserJoins
