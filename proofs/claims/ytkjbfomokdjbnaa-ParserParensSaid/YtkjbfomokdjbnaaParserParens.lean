/-
  ParserParens: for every text the law returns true: a formula in parentheses is the same formula; not and a quantifier may be put before it. No condition.
-/
import Derived.Test.YtkjbfomokdjbnaaPbC
import Derived.Test.YtkjbfomokdjbnaaRows
import Derived.ProofKit
import Derived.OpenShut
import Derived.ShutString
import Derived.Deep.DeepCutAuto
namespace Go.Proofs.Ytkjbfomokdjbnaa.parserParens
open Go.ChangeShapes Go.WideShapes Go.ChangeAt Go.RowKit Go.Proofs.Ytkjbfomokdjbnaa Go.Proofs.Ytkjbfomokdjbnaa.Lx Go.Proofs.Ytkjbfomokdjbnaa.Pa Go.Proofs.Ytkjbfomokdjbnaa.Fm
open Go.ChangeMaps (open_string shut_string)
set_option linter.unusedVariables false
set_option linter.unusedSimpArgs false
theorem size_len (s : ByteArray) : s.data.toList.length = s.size := rfl

set_option maxRecDepth 100000 in
set_option maxHeartbeats 4000000 in
theorem big (s : ByteArray) (all : Bool) (hs : s.size ≤ maxLen) (h : 1000 < s.size) (w : World) :
    Calls Try.prog 3 #[.string s, .bool all] w fun e w' => e = .returned (.bool true) ∧ Below w.heap.size w w' := by
  go_enter Try.func3, Try.ntmps3
  go_wp2_with fail
  refine (awake_any _).mono ?_
  rintro e w1 ⟨rfl, hb1⟩
  have HB1 := Lib.hid hb1
  clear hb1
  go_wp2_with fail
  refine (awake_any _).mono ?_
  rintro e w2 ⟨rfl, hb2⟩
  have HB2 := Lib.hid (HB1.out.trans (hb2.mono HB1.out.size))
  clear hb2
  go_wp2
  go_ret
  exact ⟨rfl, HB2.out⟩
set_option maxRecDepth 100000 in
set_option maxHeartbeats 4000000 in
theorem bad (s : ByteArray) (all : Bool) (h : s.size ≤ 1000) (p e : Nat) (he : e ≠ 0) (hP : ParseR (.iff false) fm s.data.toList none p e) (w : World) :
    Calls Try.prog 3 #[.string s, .bool all] w fun e w' => e = .returned (.bool true) ∧ Below w.heap.size w w' := by
  have HP := Lib.hid (fun w' => Parse_walk s _ _ _ hP (by omega) w')
  have hene : ((e : Int) != 0) = true := by rw [bne_iff_ne]; omega
  clear hP
  go_enter Try.func3, Try.ntmps3
  go_wp2_with fail
  refine (awake_any _).mono ?_
  rintro e w1 ⟨rfl, hb1⟩
  have HB1 := Lib.hid hb1
  clear hb1
  go_wp2_with fail
  refine (HP.out _).mono ?_
  rintro e w2 ⟨rfl, hb2⟩
  have HB2 := Lib.hid (HB1.out.trans (hb2.mono HB1.out.size))
  clear hb2
  go_wp2
  go_ret
  exact ⟨rfl, HB2.out⟩

set_option maxRecDepth 100000 in
set_option maxHeartbeats 4000000 in
theorem good_true (s : ByteArray) (h : s.size ≤ 1000) (f : Fo) (p : Nat) (hP : ParseR (.iff false) fm s.data.toList (some (.fo f)) p 0) (w : World) :
    Calls Try.prog 3 #[.string s, .bool true] w fun e w' => e = .returned (.bool true) ∧ Below w.heap.size w w' := by
  obtain ⟨-, -, -, -, -, -, -, -, hp0⟩ := parse_ok hP
  subst hp0
  have HP := Lib.hid (fun w' => Parse_walk s _ _ _ hP (by omega) w')
  have s1 : (⟨#[40]⟩ ++ s : ByteArray).size = s.size + 1 := by rw [ByteArray.size_append]; show 1 + _ = _; omega
  have s2 : (⟨#[40]⟩ ++ s ++ ⟨#[41]⟩ : ByteArray).size = s.size + 2 := by rw [ByteArray.size_append, s1]; rfl
  have s3 : (⟨#[110, 111, 116, 32, 40]⟩ ++ s : ByteArray).size = s.size + 5 := by rw [ByteArray.size_append]; show 5 + _ = _; omega
  have s4 : (⟨#[110, 111, 116, 32, 40]⟩ ++ s ++ ⟨#[41]⟩ : ByteArray).size = s.size + 6 := by rw [ByteArray.size_append, s3]; rfl
  have s5 : (⟨#[102, 111, 114, 97, 108, 108]⟩ ++ ⟨#[32, 120, 49, 32, 46, 32]⟩ : ByteArray).size = 12 := rfl
  have s6 : (⟨#[102, 111, 114, 97, 108, 108]⟩ ++ ⟨#[32, 120, 49, 32, 46, 32]⟩ ++ s : ByteArray).size = s.size + 12 := by rw [ByteArray.size_append, s5]; omega
  have gA : Gives (⟨#[40]⟩ ++ s ++ ⟨#[41]⟩ : ByteArray).data.toList f := by
    have e : (⟨#[40]⟩ ++ s ++ ⟨#[41]⟩ : ByteArray).data.toList = 40 :: (s.data.toList ++ [41]) := by simp [ByteArray.data_append]
    rw [e]; exact gives_paren hP h
  have gB : Gives (⟨#[110, 111, 116, 32, 40]⟩ ++ s ++ ⟨#[41]⟩ : ByteArray).data.toList (.not f) := by
    have e : (⟨#[110, 111, 116, 32, 40]⟩ ++ s ++ ⟨#[41]⟩ : ByteArray).data.toList = wNot ++ 32 :: 40 :: (s.data.toList ++ [41]) := by simp [ByteArray.data_append, wNot]
    rw [e]; exact gives_not hP h
  have gC : Gives (⟨#[102, 111, 114, 97, 108, 108]⟩ ++ ⟨#[32, 120, 49, 32, 46, 32]⟩ ++ s : ByteArray).data.toList (.quant true (bs [120, 49]) f) := by
    have e : (⟨#[102, 111, 114, 97, 108, 108]⟩ ++ ⟨#[32, 120, 49, 32, 46, 32]⟩ ++ s : ByteArray).data.toList = (if true then wForall else wExists) ++ 32 :: 120 :: 49 :: 32 :: 46 :: 32 :: s.data.toList := by simp [ByteArray.data_append, wForall, wExists]
    rw [e]; exact gives_quant true hP h
  have HGA := Lib.hid (fun w' => gives_walk _ _ gA (by rw [s2]; omega) w')
  have HGB := Lib.hid (fun w' => gives_walk _ _ gB (by rw [s4]; omega) w')
  have HGC := Lib.hid (fun w' => gives_walk _ _ gC (by rw [s6]; omega) w')
  have HS2 := Lib.hid s2
  have HS4 := Lib.hid s4
  have HS6 := Lib.hid s6
  clear hP gA gB gC
  go_enter Try.func3, Try.ntmps3
  go_wp2_with fail
  refine (awake_any _).mono ?_
  rintro e w1 ⟨rfl, hb1⟩
  have HB1 := Lib.hid hb1
  clear hb1
  go_wp2_with fail
  refine (HP.out _).mono ?_
  rintro e w2 ⟨⟨u, z, rfl, hV⟩, hb2⟩
  have HB2 := Lib.hid (HB1.out.trans (hb2.mono HB1.out.size))
  have HF2 := Lib.hid (show FoAt w2 (fun k => k < w2.heap.size) f (.iface u z) from hV.1)
  have HSF := Lib.hid (show SmF f from hV.2.2)
  clear hb2 hV
  go_wp2_with fail
  refine (HGA.out _).mono ?_
  rintro e w3 ⟨va, pa, xa, rfl, hoa, hxa, hb3⟩
  have HXA := Lib.hid hxa
  have HB3 := Lib.hid hb3
  clear hxa hb3
  go_wp2_with fail
  refine (HGB.out _).mono ?_
  rintro e w4 ⟨vb, pb, xb, rfl, hob, hxb, hb4⟩
  have HXB := Lib.hid hxb
  have HB4 := Lib.hid hb4
  clear hxb hb4
  go_wp2_with fail
  refine (HGC.out _).mono ?_
  rintro e w5 ⟨vc, pc, xc, rfl, hoc, hxc, hb5⟩
  have HXC := Lib.hid hxc
  have HB5 := Lib.hid hb5
  clear hxc hb5
  have HB35 := Lib.hid (HB4.out.trans (HB5.out.mono HB4.out.size))
  have HB25 := Lib.hid (HB3.out.trans (HB35.out.mono HB3.out.size))
  have HB05 := Lib.hid (HB2.out.trans (HB25.out.mono HB2.out.size))
  go_upto_region 12 with fail
  go_cut [18] (fun c wx => c = .bool true ∧ Hid (Below w5.heap.size w5 wx))
  case first =>
    have HBw := HB25
    have HBx := HB35
    have HBe := Lib.hid (Below.refl w5.heap.size w5)
    rcases HXA.out with ⟨rfl, ⟨ua, za, rfl⟩, hFa, hSa⟩ | ⟨rfl, rfl, qa, hqa⟩
    · have HSM := Lib.hid (same_true f (.iface ua za) (.iface u z) _ (FoAt.up hFa HBx.out) (FoAt.up HF2.out HBw.out) hSa)
      clear hFa hSa
      go_wp2_with fail
      refine HSM.out.mono ?_
      rintro e w6 ⟨rfl, hb6⟩
      have HB6 := Lib.hid (HBe.out.trans (hb6.mono HBe.out.size))
      clear hb6
      go_wp2_with fail
      go_meet
      exact ⟨rfl, HB6⟩
    · have HSM := Lib.hid (fun w' => refused_any (⟨#[40]⟩ ++ s ++ ⟨#[41]⟩) qa hqa (by rw [HS2.out]; omega) w')
      clear hqa
      go_wp2_with fail
      refine (HSM.out _).mono ?_
      rintro e w6 ⟨rfl, hb6⟩
      have HB6 := Lib.hid (HBe.out.trans (hb6.mono HBe.out.size))
      clear hb6
      go_wp2_with fail
      go_meet
      exact ⟨rfl, HB6⟩
  case rest =>
    obtain ⟨rfl, HCC⟩ := hcut
    go_upto_region 13 with fail
    go_cut [19] (fun c wx => c = .bool true ∧ Hid (Below w5.heap.size w5 wx))
    case first =>
      have HBw := Lib.hid (HB25.out.trans (Below.mono HCC.out HB25.out.size))
      have HBx := Lib.hid (HB5.out.trans (Below.mono HCC.out HB5.out.size))
      have HBe := HCC
      rcases HXB.out with ⟨rfl, ⟨ua, za, rfl⟩, hFa, hSa⟩ | ⟨rfl, rfl, qa, hqa⟩
      · have HSM := Lib.hid (same_true (.not f) (.iface ua za) (.iface 31 (.agg #[.iface u z])) _ (FoAt.up hFa HBx.out) ⟨_, rfl, (FoAt.up HF2.out HBw.out)⟩ hSa)
        clear hFa hSa
        go_wp2_with fail
        refine HSM.out.mono ?_
        rintro e w6 ⟨rfl, hb6⟩
        have HB6 := Lib.hid (HBe.out.trans (hb6.mono HBe.out.size))
        clear hb6
        go_wp2_with fail
        go_meet
        exact ⟨rfl, HB6⟩
      · have HSM := Lib.hid (fun w' => refused_any (⟨#[110, 111, 116, 32, 40]⟩ ++ s ++ ⟨#[41]⟩) qa hqa (by rw [HS4.out]; omega) w')
        clear hqa
        go_wp2_with fail
        refine (HSM.out _).mono ?_
        rintro e w6 ⟨rfl, hb6⟩
        have HB6 := Lib.hid (HBe.out.trans (hb6.mono HBe.out.size))
        clear hb6
        go_wp2_with fail
        go_meet
        exact ⟨rfl, HB6⟩
    case rest =>
      obtain ⟨rfl, HCC⟩ := hcut
      go_upto_region 14 with fail
      go_cut [20] (fun c wx => c = .bool true ∧ Hid (Below w5.heap.size w5 wx))
      case first =>
        have HBw := Lib.hid (HB25.out.trans (Below.mono HCC.out HB25.out.size))
        have HBx := Lib.hid ((Lib.hid (Below.refl w5.heap.size w5)).out.trans (Below.mono HCC.out (Lib.hid (Below.refl w5.heap.size w5)).out.size))
        have HBe := HCC
        rcases HXC.out with ⟨rfl, ⟨ua, za, rfl⟩, hFa, hSa⟩ | ⟨rfl, rfl, qa, hqa⟩
        · have HSM := Lib.hid (same_true (.quant true (bs [120, 49]) f) (.iface ua za) (.iface 33 (.agg #[.bool true, .string ⟨#[120, 49]⟩, .iface u z])) _ (FoAt.up hFa HBx.out) ⟨_, rfl, by decide, (FoAt.up HF2.out HBw.out)⟩ hSa)
          clear hFa hSa
          go_wp2_with fail
          refine HSM.out.mono ?_
          rintro e w6 ⟨rfl, hb6⟩
          have HB6 := Lib.hid (HBe.out.trans (hb6.mono HBe.out.size))
          clear hb6
          go_wp2_with fail
          go_meet
          exact ⟨rfl, HB6⟩
        · have HSM := Lib.hid (fun w' => refused_any (⟨#[102, 111, 114, 97, 108, 108]⟩ ++ ⟨#[32, 120, 49, 32, 46, 32]⟩ ++ s) qa hqa (by rw [HS6.out]; omega) w')
          clear hqa
          go_wp2_with fail
          refine (HSM.out _).mono ?_
          rintro e w6 ⟨rfl, hb6⟩
          have HB6 := Lib.hid (HBe.out.trans (hb6.mono HBe.out.size))
          clear hb6
          go_wp2_with fail
          go_meet
          exact ⟨rfl, HB6⟩
      case rest =>
        obtain ⟨rfl, HCC⟩ := hcut
        go_wp2
        go_ret
        exact ⟨rfl, HB05.out.trans (Below.mono HCC.out HB05.out.size)⟩

set_option maxRecDepth 100000 in
set_option maxHeartbeats 4000000 in
theorem good_false (s : ByteArray) (h : s.size ≤ 1000) (f : Fo) (p : Nat) (hP : ParseR (.iff false) fm s.data.toList (some (.fo f)) p 0) (w : World) :
    Calls Try.prog 3 #[.string s, .bool false] w fun e w' => e = .returned (.bool true) ∧ Below w.heap.size w w' := by
  obtain ⟨-, -, -, -, -, -, -, -, hp0⟩ := parse_ok hP
  subst hp0
  have HP := Lib.hid (fun w' => Parse_walk s _ _ _ hP (by omega) w')
  have s1 : (⟨#[40]⟩ ++ s : ByteArray).size = s.size + 1 := by rw [ByteArray.size_append]; show 1 + _ = _; omega
  have s2 : (⟨#[40]⟩ ++ s ++ ⟨#[41]⟩ : ByteArray).size = s.size + 2 := by rw [ByteArray.size_append, s1]; rfl
  have s3 : (⟨#[110, 111, 116, 32, 40]⟩ ++ s : ByteArray).size = s.size + 5 := by rw [ByteArray.size_append]; show 5 + _ = _; omega
  have s4 : (⟨#[110, 111, 116, 32, 40]⟩ ++ s ++ ⟨#[41]⟩ : ByteArray).size = s.size + 6 := by rw [ByteArray.size_append, s3]; rfl
  have s5 : (⟨#[101, 120, 105, 115, 116, 115]⟩ ++ ⟨#[32, 120, 49, 32, 46, 32]⟩ : ByteArray).size = 12 := rfl
  have s6 : (⟨#[101, 120, 105, 115, 116, 115]⟩ ++ ⟨#[32, 120, 49, 32, 46, 32]⟩ ++ s : ByteArray).size = s.size + 12 := by rw [ByteArray.size_append, s5]; omega
  have gA : Gives (⟨#[40]⟩ ++ s ++ ⟨#[41]⟩ : ByteArray).data.toList f := by
    have e : (⟨#[40]⟩ ++ s ++ ⟨#[41]⟩ : ByteArray).data.toList = 40 :: (s.data.toList ++ [41]) := by simp [ByteArray.data_append]
    rw [e]; exact gives_paren hP h
  have gB : Gives (⟨#[110, 111, 116, 32, 40]⟩ ++ s ++ ⟨#[41]⟩ : ByteArray).data.toList (.not f) := by
    have e : (⟨#[110, 111, 116, 32, 40]⟩ ++ s ++ ⟨#[41]⟩ : ByteArray).data.toList = wNot ++ 32 :: 40 :: (s.data.toList ++ [41]) := by simp [ByteArray.data_append, wNot]
    rw [e]; exact gives_not hP h
  have gC : Gives (⟨#[101, 120, 105, 115, 116, 115]⟩ ++ ⟨#[32, 120, 49, 32, 46, 32]⟩ ++ s : ByteArray).data.toList (.quant false (bs [120, 49]) f) := by
    have e : (⟨#[101, 120, 105, 115, 116, 115]⟩ ++ ⟨#[32, 120, 49, 32, 46, 32]⟩ ++ s : ByteArray).data.toList = (if false then wForall else wExists) ++ 32 :: 120 :: 49 :: 32 :: 46 :: 32 :: s.data.toList := by simp [ByteArray.data_append, wForall, wExists]
    rw [e]; exact gives_quant false hP h
  have HGA := Lib.hid (fun w' => gives_walk _ _ gA (by rw [s2]; omega) w')
  have HGB := Lib.hid (fun w' => gives_walk _ _ gB (by rw [s4]; omega) w')
  have HGC := Lib.hid (fun w' => gives_walk _ _ gC (by rw [s6]; omega) w')
  have HS2 := Lib.hid s2
  have HS4 := Lib.hid s4
  have HS6 := Lib.hid s6
  clear hP gA gB gC
  go_enter Try.func3, Try.ntmps3
  go_wp2_with fail
  refine (awake_any _).mono ?_
  rintro e w1 ⟨rfl, hb1⟩
  have HB1 := Lib.hid hb1
  clear hb1
  go_wp2_with fail
  refine (HP.out _).mono ?_
  rintro e w2 ⟨⟨u, z, rfl, hV⟩, hb2⟩
  have HB2 := Lib.hid (HB1.out.trans (hb2.mono HB1.out.size))
  have HF2 := Lib.hid (show FoAt w2 (fun k => k < w2.heap.size) f (.iface u z) from hV.1)
  have HSF := Lib.hid (show SmF f from hV.2.2)
  clear hb2 hV
  go_wp2_with fail
  refine (HGA.out _).mono ?_
  rintro e w3 ⟨va, pa, xa, rfl, hoa, hxa, hb3⟩
  have HXA := Lib.hid hxa
  have HB3 := Lib.hid hb3
  clear hxa hb3
  go_wp2_with fail
  refine (HGB.out _).mono ?_
  rintro e w4 ⟨vb, pb, xb, rfl, hob, hxb, hb4⟩
  have HXB := Lib.hid hxb
  have HB4 := Lib.hid hb4
  clear hxb hb4
  go_wp2_with fail
  refine (HGC.out _).mono ?_
  rintro e w5 ⟨vc, pc, xc, rfl, hoc, hxc, hb5⟩
  have HXC := Lib.hid hxc
  have HB5 := Lib.hid hb5
  clear hxc hb5
  have HB35 := Lib.hid (HB4.out.trans (HB5.out.mono HB4.out.size))
  have HB25 := Lib.hid (HB3.out.trans (HB35.out.mono HB3.out.size))
  have HB05 := Lib.hid (HB2.out.trans (HB25.out.mono HB2.out.size))
  go_upto_region 12 with fail
  go_cut [18] (fun c wx => c = .bool true ∧ Hid (Below w5.heap.size w5 wx))
  case first =>
    have HBw := HB25
    have HBx := HB35
    have HBe := Lib.hid (Below.refl w5.heap.size w5)
    rcases HXA.out with ⟨rfl, ⟨ua, za, rfl⟩, hFa, hSa⟩ | ⟨rfl, rfl, qa, hqa⟩
    · have HSM := Lib.hid (same_true f (.iface ua za) (.iface u z) _ (FoAt.up hFa HBx.out) (FoAt.up HF2.out HBw.out) hSa)
      clear hFa hSa
      go_wp2_with fail
      refine HSM.out.mono ?_
      rintro e w6 ⟨rfl, hb6⟩
      have HB6 := Lib.hid (HBe.out.trans (hb6.mono HBe.out.size))
      clear hb6
      go_wp2_with fail
      go_meet
      exact ⟨rfl, HB6⟩
    · have HSM := Lib.hid (fun w' => refused_any (⟨#[40]⟩ ++ s ++ ⟨#[41]⟩) qa hqa (by rw [HS2.out]; omega) w')
      clear hqa
      go_wp2_with fail
      refine (HSM.out _).mono ?_
      rintro e w6 ⟨rfl, hb6⟩
      have HB6 := Lib.hid (HBe.out.trans (hb6.mono HBe.out.size))
      clear hb6
      go_wp2_with fail
      go_meet
      exact ⟨rfl, HB6⟩
  case rest =>
    obtain ⟨rfl, HCC⟩ := hcut
    go_upto_region 13 with fail
    go_cut [19] (fun c wx => c = .bool true ∧ Hid (Below w5.heap.size w5 wx))
    case first =>
      have HBw := Lib.hid (HB25.out.trans (Below.mono HCC.out HB25.out.size))
      have HBx := Lib.hid (HB5.out.trans (Below.mono HCC.out HB5.out.size))
      have HBe := HCC
      rcases HXB.out with ⟨rfl, ⟨ua, za, rfl⟩, hFa, hSa⟩ | ⟨rfl, rfl, qa, hqa⟩
      · have HSM := Lib.hid (same_true (.not f) (.iface ua za) (.iface 31 (.agg #[.iface u z])) _ (FoAt.up hFa HBx.out) ⟨_, rfl, (FoAt.up HF2.out HBw.out)⟩ hSa)
        clear hFa hSa
        go_wp2_with fail
        refine HSM.out.mono ?_
        rintro e w6 ⟨rfl, hb6⟩
        have HB6 := Lib.hid (HBe.out.trans (hb6.mono HBe.out.size))
        clear hb6
        go_wp2_with fail
        go_meet
        exact ⟨rfl, HB6⟩
      · have HSM := Lib.hid (fun w' => refused_any (⟨#[110, 111, 116, 32, 40]⟩ ++ s ++ ⟨#[41]⟩) qa hqa (by rw [HS4.out]; omega) w')
        clear hqa
        go_wp2_with fail
        refine (HSM.out _).mono ?_
        rintro e w6 ⟨rfl, hb6⟩
        have HB6 := Lib.hid (HBe.out.trans (hb6.mono HBe.out.size))
        clear hb6
        go_wp2_with fail
        go_meet
        exact ⟨rfl, HB6⟩
    case rest =>
      obtain ⟨rfl, HCC⟩ := hcut
      go_upto_region 14 with fail
      go_cut [20] (fun c wx => c = .bool true ∧ Hid (Below w5.heap.size w5 wx))
      case first =>
        have HBw := Lib.hid (HB25.out.trans (Below.mono HCC.out HB25.out.size))
        have HBx := Lib.hid ((Lib.hid (Below.refl w5.heap.size w5)).out.trans (Below.mono HCC.out (Lib.hid (Below.refl w5.heap.size w5)).out.size))
        have HBe := HCC
        rcases HXC.out with ⟨rfl, ⟨ua, za, rfl⟩, hFa, hSa⟩ | ⟨rfl, rfl, qa, hqa⟩
        · have HSM := Lib.hid (same_true (.quant false (bs [120, 49]) f) (.iface ua za) (.iface 33 (.agg #[.bool false, .string ⟨#[120, 49]⟩, .iface u z])) _ (FoAt.up hFa HBx.out) ⟨_, rfl, by decide, (FoAt.up HF2.out HBw.out)⟩ hSa)
          clear hFa hSa
          go_wp2_with fail
          refine HSM.out.mono ?_
          rintro e w6 ⟨rfl, hb6⟩
          have HB6 := Lib.hid (HBe.out.trans (hb6.mono HBe.out.size))
          clear hb6
          go_wp2_with fail
          go_meet
          exact ⟨rfl, HB6⟩
        · have HSM := Lib.hid (fun w' => refused_any (⟨#[101, 120, 105, 115, 116, 115]⟩ ++ ⟨#[32, 120, 49, 32, 46, 32]⟩ ++ s) qa hqa (by rw [HS6.out]; omega) w')
          clear hqa
          go_wp2_with fail
          refine (HSM.out _).mono ?_
          rintro e w6 ⟨rfl, hb6⟩
          have HB6 := Lib.hid (HBe.out.trans (hb6.mono HBe.out.size))
          clear hb6
          go_wp2_with fail
          go_meet
          exact ⟨rfl, HB6⟩
      case rest =>
        obtain ⟨rfl, HCC⟩ := hcut
        go_wp2
        go_ret
        exact ⟨rfl, HB05.out.trans (Below.mono HCC.out HB05.out.size)⟩

theorem walk (s : ByteArray) (all : Bool) (hs : s.size ≤ maxLen) (w : World) :
    Calls Try.prog 3 #[.string s, .bool all] w fun e w' => e = .returned (.bool true) ∧ Below w.heap.size w w' := by
  by_cases h : 1000 < s.size
  · exact big s all hs h w
  · obtain ⟨r, p, e, hP⟩ := parse_ends (.iff false) (by simp) fm s.data.toList
    by_cases he : e = 0
    · subst he
      cases r with
      | none => exact (no_none hP).elim
      | some x =>
        obtain ⟨f, -, -, rfl, -⟩ := parse_ok hP
        cases all with
        | true => exact good_true s (by omega) f p hP w
        | false => exact good_false s (by omega) f p hP w
    · obtain rfl : r = none := parse_none hP he
      exact bad s all (by omega) p e he hP w

theorem own : ownKnob Try.prog.godebug = none := by kernel_rfl

set_option maxRecDepth 100000 in
theorem lifted (os : Os) (started : os.Started) (H : Type) (enc : TypeId × Value → H) :
    ReturnsInHanded {} Try.checked os 3 .any (Rows.parserParensSpec.pre6 enc Try.prog Try.f3 Rows.parserParensRow.domain false) (Rows.parserParensSpec.post enc Try.prog Try.f3 false true false false) := by
  refine returnsInHanded_of_change (C := Try.checked) own started (by kernel_rfl) Try.func3
    (ChangeSpec.witness6 (enc := enc) (C := Try.checked) false ⟨#[], #[.string ByteArray.empty, .bool false], []⟩ 8 (by kernel_rfl) (by kernel_rfl) (by kernel_rfl) (by kernel_rfl)) ?_
  intro W base args ds gs before hval0 hW hcnd _
  have hval : ∀ (j : Nat) t v, Try.f3.params[j]? = some t → args[j]? = some v → Value.okWide Try.prog W .any base t v := hval0
  have hW' := hW
  obtain ⟨p, q, hA0, hV, rfl, hfz, hnd⟩ := hW
  have hA : DataW.TrodAll enc Try.prog W 0 (fun _ => true) true Try.f3.params.toList args.toList ds p := hA0
  rw [Try.params3] at hA hval
  obtain ⟨v0, vs0, d0, ds0, p0, q0, hargs, rfl, rfl, h0, r0⟩ := trodAll_cons hA
  obtain ⟨v1, vs1, d1, ds1, p1, q1, rfl, rfl, rfl, h1, r1⟩ := trodAll_cons r0
  obtain ⟨rfl, rfl, rfl⟩ := trodAll_nil r1
  obtain rfl : args = #[v0, v1] := by cases args; simp_all
  obtain ⟨rfl, rfl⟩ := trodVars_none hV
  obtain ⟨a0, rfl, rfl, rfl, w0⟩ := open_string Try.underlying9 (hval 0 9 v0 rfl rfl) h0
  obtain ⟨a1, rfl, rfl, rfl⟩ := open_bool Try.underlying4 (hval 1 4 v1 rfl rfl) h1
  clear hA0 hval0
  simp only [List.append_nil] at hW'
  refine (walk a0 a1 w0 W ).mono fun e W' ⟨he, bel⟩ => ?_
  subst he
  exact ⟨_, rfl, _, _, _, [], _, [], hW', trodAll_mk1 (shut_bool Try.underlying4 _), (trodAll_cons_mk (shut_string Try.underlying9 w0) (trodAll_cons_mk (shut_bool Try.underlying4 a1) trodAll_mk0)), rfl, bel.frame _, fun h => by cases h⟩

theorem over : Rows.parserParensRow.holds Try.pinned (OpenSpec.ofChange Rows.parserParensSpec) :=
  OpenClaim.holds_of_wide 3 Try.f3 rfl rfl rfl rfl rfl rfl rfl ⟨rfl, rfl, rfl, rfl, rfl⟩ rfl rfl rfl rfl rfl (by kernel_rfl) Try.func3 (by kernel_rfl)
    (of_decide_eq_true (by kernel_rfl)) (by unfold Func.isWrapper; first | (rw [if_pos (by decide +kernel)]; kernel_rfl) | (rw [if_neg (by decide +kernel)]; exact ⟨rfl, rfl⟩))
    (fun os started H enc _ => lifted os started H enc)

/-- THE STATEMENT -/
theorem proved : Rows.ParserParensSaid := over
end Go.Proofs.Ytkjbfomokdjbnaa.parserParens
