/-
  LexerPrefix: for every input the law returns true: a beginning of a text that has tokens has the same tokens up to its end, where one may be cut. No condition.
-/
import Derived.Test.YtnfbmclaenodaaaLxV
import Derived.Test.YtnfbmclaenodaaaRows
import Derived.ProofKit
import Derived.OpenShut
import Derived.ShutString
namespace Go.Proofs.Ytnfbmclaenodaaa.lexerPrefix
open Go.ChangeShapes Go.WideShapes Go.ChangeAt Go.RowKit Go.Proofs.Ytnfbmclaenodaaa Go.Proofs.Ytnfbmclaenodaaa.Lx
open Go.ChangeMaps (open_string shut_string)
set_option linter.unusedVariables false
set_option linter.unusedSimpArgs false

theorem ext0 (s : ByteArray) (n : Nat) : (s.extract 0 n).data.toList = s.data.toList.take n := by rw [extract_drop, List.drop_zero, Nat.sub_zero]

set_option maxHeartbeats 4000000 in
set_option maxRecDepth 100000 in
theorem big (s : ByteArray) (q : Int) (hs : s.size ≤ maxLen) (h : 3000 < s.size) (w : World) :
    Calls Try.prog 7 #[.string s, .int .u16 q] w fun e w' => e = .returned (.bool true) ∧ Below w.heap.size w w' := by
  unfold maxLen at hs
  go_enter Try.func7, Try.ntmps7
  go_wp2_with fail
  refine (awake_any _).mono ?_
  rintro e w1 ⟨rfl, hb1⟩
  go_wp2_with fail
  refine (awake_any _).mono ?_
  rintro e w2 ⟨rfl, hb2⟩
  go_wp2_with fail
  go_ret
  exact ⟨rfl, hb1.trans (hb2.mono hb1.size)⟩

set_option maxHeartbeats 4000000 in
set_option maxRecDepth 100000 in
theorem small (s : ByteArray) (q : Nat) (hs : s.size ≤ 3000) (hq : q ≤ 65535) (w : World) :
    Calls Try.prog 7 #[.string s, .int .u16 (q : Int)] w fun e w' => e = .returned (.bool true) ∧ Below w.heap.size w w' := by
  obtain ⟨n, hn⟩ : ∃ n, n = q % (s.size + 1) := ⟨_, rfl⟩
  have hns : n ≤ s.size := by have := Nat.mod_lt q (show 0 < s.size + 1 by omega); omega
  have hmi : (q : Int) % ((s.size : Int) + 1) = (n : Int) := by
    have e : ((s.size : Int) + 1) = ((s.size + 1 : Nat) : Int) := by omega
    rw [hn, e, Int.natCast_emod]
  clear hn
  obtain ⟨ls, ps, es, hls⟩ : ∃ la pa ea, lex s.data.toList = (la, pa, ea) := ⟨_, _, _, rfl⟩
  obtain ⟨lm, pm, em, hlm⟩ : ∃ la pa ea, lex (s.extract 0 n).data.toList = (la, pa, ea) := ⟨_, _, _, rfl⟩
  obtain ⟨nl, hnl⟩ : ∃ n, n = ls.length := ⟨_, rfl⟩
  obtain ⟨nm, hnm⟩ : ∃ n, n = lm.length := ⟨_, rfl⟩
  have hlen := lex_length s.data.toList
  have hlen2 := lex_length (s.extract 0 n).data.toList
  have hmem := fun t ht => lex_mem s.data.toList t ht
  have hcut := lex_cut s.data.toList (by rw [size_len]; omega)
  have hesz : (s.extract 0 n).size ≤ 140737488351232 := by rw [← size_len, ext0, List.length_take, size_len]; omega
  rw [hls, size_len] at hlen hmem
  rw [hlm, ext0, List.length_take, size_len] at hlen2
  rw [hls] at hcut
  dsimp only at hlen hmem hlen2 hcut
  rw [← hnl] at hlen
  rw [← hnm] at hlen2
  have HL := Lib.hid hls
  have HLM := Lib.hid hlm
  have HN := Lib.hid hnl
  have HNM := Lib.hid hnm
  have HM := Lib.hid hmem
  have HC := Lib.hid hcut
  have HZ := Lib.hid hesz
  clear hls hlm hnl hnm hmem hcut hesz
  by_cases he : es = 0
  · have he' : ((es : Int) != 0) = false := by simp; omega
    obtain ⟨g1, g2, g3, g4⟩ := HC.out he n (by rw [size_len]; exact hns)
    rw [← ext0, HLM.out] at g1 g2 g3 g4
    dsimp only at g1 g2 g3 g4
    rw [← HNM.out, ← HN.out] at g2
    have hem : ((em : Int) != 0) = false := by simp; omega
    have hle : decide ((nl : Int) < (nm : Int)) = false := by simp; omega
    have hle2 : decide (nl < nm) = false := by simp; omega
    have G3 := Lib.hid g3
    have G4 := Lib.hid g4
    clear g1 g3 g4 he
    go_enter Try.func7, Try.ntmps7
    go_wp2_with fail
    refine (awake_any _).mono ?_
    rintro e w1 ⟨rfl, hb1⟩
    go_wp2_with fail
    refine (lex_is s (by omega) ls ps es HL.out nl HN.out _).mono ?_
    rintro e w2 ⟨A, ca, rfl, hSa, hb2⟩
    go_wp2_with fail
    refine (lex_is _ HZ.out lm pm em HLM.out nm HNM.out _).mono ?_
    rintro e w3 ⟨A', cb, rfl, hSb, hb3⟩
    have hbel : Below w.heap.size w w3 := by
      have := hb1.size; have := hb2.size
      exact (hb1.trans (hb2.mono (by omega))).trans (hb3.mono (by omega))
    have HSA := Lib.hid (hSa.below hb3)
    have HSB := Lib.hid hSb
    clear hSa hSb
    go_wp2_with fail
    go_loopw [54] (fun j wr => ∃ (i : Nat), i ≤ nl ∧ j = .int .i64 i ∧ (∃ k, wr = w3.drewN k)) (fun j _ => nl - (intOf j).toNat)
    case atStart => exact ⟨0, Nat.zero_le _, rfl, 0, rfl⟩
    case round =>
      obtain ⟨i, hi, rfl, k, rfl⟩ := hrel
      obtain ⟨wo, hwo⟩ : ∃ wo, wo = w3.drewN k := ⟨_, rfl⟩
      rw [← hwo]
      have HW := Lib.hid hwo
      have hcell : ∀ q, wo.cell? q = w3.cell? q := by intro q; rw [hwo]; rfl
      have HQ := Lib.hid hcell
      clear hwo hcell
      by_cases hlt : i < nl
      · have hil : i < ls.length := by rw [← HN.out]; exact hlt
        obtain ⟨b1, o1, rfl, c0, c1, c2⟩ := HSA.out.tok HN.out i hlt
        rw [← HQ.out] at c0 c1 c2
        obtain ⟨x, hx⟩ : ∃ x, x = ls[i] := ⟨_, rfl⟩
        rw [← hx] at c0 c1 c2
        have hxm := HM.out x (by rw [hx]; exact List.getElem_mem _)
        have HX := Lib.hid hx
        clear hx
        obtain ⟨kx, tx, px⟩ := x
        obtain ⟨sx, hsx⟩ : ∃ s, s = bs tx := ⟨_, rfl⟩
        have hsz : tx.length = sx.size := by rw [hsx, bs_size]
        dsimp only at c0 c1 c2 hxm
        rw [← hsx] at c1
        rw [hsz] at hxm
        have HSX := Lib.hid hsx
        have HSZ := Lib.hid hsz
        have z1 : IntKind.i64.wrap ((px : Int) + (sx.size : Int)) = (px : Int) + (sx.size : Int) := IntWalk.i64_in _ (by omega)
        clear hsx hsz
        by_cases hE : px + sx.size ≤ n
        · obtain ⟨hj, hgi⟩ := G3.out i hil (by rw [← HX.out]; show px + tx.length ≤ n; rw [HSZ.out]; exact hE)
          have hjm : i < nm := by rw [HNM.out]; exact hj
          obtain ⟨b2, o2, rfl, d0, d1, d2⟩ := HSB.out.tok HNM.out i hjm
          rw [← HQ.out] at d0 d1 d2
          rw [hgi, ← HX.out] at d0 d1 d2
          dsimp only at d0 d1 d2
          rw [← HSX.out] at d1
          have f1 : decide ((px : Int) + (sx.size : Int) ≤ (n : Int)) = true := by simp; omega
          have f2 : decide ((nm : Int) ≤ (i : Int)) = false := by simp; omega
          have f3 : decide (nm ≤ i) = false := by simp; omega
          have f4 : ((px : Int) != (px : Int)) = false := by simp
          have f5 : (sx.toList != sx.toList) = false := by simp
          have f6 : decide ((n : Int) ≤ (px : Int)) = false := by simp; omega
          have f7 : decide (n ≤ px) = false := by simp; omega
          clear hgi hj
          go_wp2_with fail
          go_quiet (fail)
          clear z1
          go_wp2
          go_roundw
          case rel => exact ⟨i + 1, by omega, by go_num, by rw [HW.out]; exact ⟨_, by first | rfl | (simp only [World.drewN_drewN]; rfl)⟩⟩
          case measure => simp [intOf]; omega
        · have f1 : decide ((px : Int) + (sx.size : Int) ≤ (n : Int)) = false := by simp; omega
          by_cases hp : n ≤ px
          · have hnm2 : nm ≤ i := by rw [HNM.out]; exact G4.out i hil (by rw [← HX.out]; exact hp)
            have f2 : decide ((i : Int) < (nm : Int)) = false := by simp; omega
            have f3 : decide (i < nm) = false := by simp; omega
            have f6 : decide ((n : Int) ≤ (px : Int)) = true := by simp; omega
            have f7 : decide (n ≤ px) = true := by simp; omega
            go_wp2_with fail
            go_quiet (fail)
            clear z1
            go_wp2
            go_roundw
            case rel => exact ⟨i + 1, by omega, by go_num, by rw [HW.out]; exact ⟨_, by first | rfl | (simp only [World.drewN_drewN]; rfl)⟩⟩
            case measure => simp [intOf]; omega
          · have f6 : decide ((n : Int) ≤ (px : Int)) = false := by simp; omega
            have f7 : decide (n ≤ px) = false := by simp; omega
            go_wp2_with fail
            go_quiet (fail)
            clear z1
            go_wp2
            go_roundw
            case rel => exact ⟨i + 1, by omega, by go_num, by rw [HW.out]; exact ⟨_, by first | rfl | (simp only [World.drewN_drewN]; rfl)⟩⟩
            case measure => simp [intOf]; omega
      · go_wp2
        go_ret
        exact ⟨rfl, by rw [HW.out]; exact below_drewN hbel k⟩
  · have he' : ((es : Int) != 0) = true := by simp; omega
    clear he
    go_enter Try.func7, Try.ntmps7
    go_wp2_with fail
    refine (awake_any _).mono ?_
    rintro e w1 ⟨rfl, hb1⟩
    go_wp2_with fail
    refine (lex_is s (by omega) ls ps es HL.out nl HN.out _).mono ?_
    rintro e w2 ⟨A, ca, rfl, hSa, hb2⟩
    go_wp2_with fail
    refine (lex_is _ HZ.out lm pm em HLM.out nm HNM.out _).mono ?_
    rintro e w3 ⟨A', cb, rfl, hSb, hb3⟩
    clear hSa hSb
    go_wp2
    go_ret
    have := hb1.size
    have := hb2.size
    exact ⟨rfl, (hb1.trans (hb2.mono (by omega))).trans (hb3.mono (by omega))⟩

theorem walk (s : ByteArray) (q : Int) (hs : s.size ≤ maxLen) (hq : (Lit.int .u16 q).wf = true) (w : World) :
    Calls Try.prog 7 #[.string s, .int .u16 q] w fun e w' => e = .returned (.bool true) ∧ Below w.heap.size w w' := by
  by_cases h : 3000 < s.size
  · exact big s q hs h w
  · have b1 := bounds_u16 hq
    obtain ⟨q, rfl⟩ := Int.eq_ofNat_of_zero_le b1.1
    exact small s q (by omega) (by omega) w

theorem own : ownKnob Try.prog.godebug = none := by kernel_rfl

set_option maxRecDepth 100000 in
theorem lifted (os : Os) (started : os.Started) (H : Type) (enc : TypeId × Value → H) :
    ReturnsInHanded {} Try.checked os 7 .any (Rows.lexerPrefixSpec.pre6 enc Try.prog Try.f7 Rows.lexerPrefixRow.domain false) (Rows.lexerPrefixSpec.post enc Try.prog Try.f7 false true false false) := by
  refine returnsInHanded_of_change (C := Try.checked) own started (by kernel_rfl) Try.func7
    (ChangeSpec.witness6 (enc := enc) (C := Try.checked) false ⟨#[], #[.string ByteArray.empty, .int .u16 0], []⟩ 8 (by kernel_rfl) (by kernel_rfl) (by kernel_rfl) (by kernel_rfl)) ?_
  intro W base args ds gs before hval0 hW hcnd _
  have hval : ∀ (j : Nat) t v, Try.f7.params[j]? = some t → args[j]? = some v → Value.okWide Try.prog W .any base t v := hval0
  have hW' := hW
  obtain ⟨p, q, hA0, hV, rfl, hfz, hnd⟩ := hW
  have hA : DataW.TrodAll enc Try.prog W 0 (fun _ => true) true Try.f7.params.toList args.toList ds p := hA0
  rw [Try.params7] at hA hval
  obtain ⟨v0, vs0, d0, ds0, p0, q0, hargs, rfl, rfl, h0, r0⟩ := trodAll_cons hA
  obtain ⟨v1, vs1, d1, ds1, p1, q1, rfl, rfl, rfl, h1, r1⟩ := trodAll_cons r0
  obtain ⟨rfl, rfl, rfl⟩ := trodAll_nil r1
  obtain rfl : args = #[v0, v1] := by cases args; simp_all
  obtain ⟨rfl, rfl⟩ := trodVars_none hV
  obtain ⟨a0, rfl, rfl, rfl, w0⟩ := open_string Try.underlying9 (hval 0 9 v0 rfl rfl) h0
  obtain ⟨a1, rfl, rfl, rfl, w1⟩ := open_int Try.underlying35 (hval 1 35 v1 rfl rfl) h1
  clear hA0 hval0
  simp only [List.append_nil] at hW'
  refine (walk a0 a1 w0 w1 W).mono fun e W' ⟨he, bel⟩ => ?_
  subst he
  exact ⟨_, rfl, _, _, _, [], _, [], hW', trodAll_mk1 (shut_bool Try.underlying4 _), (trodAll_cons_mk (shut_string Try.underlying9 w0) (trodAll_cons_mk (shut_int Try.underlying35 w1) trodAll_mk0)), rfl, bel.frame _, fun h => by cases h⟩

theorem over : Rows.lexerPrefixRow.holds Try.pinned (OpenSpec.ofChange Rows.lexerPrefixSpec) :=
  OpenClaim.holds_of_wide 7 Try.f7 rfl rfl rfl rfl rfl rfl rfl ⟨rfl, rfl, rfl, rfl, rfl⟩ rfl rfl rfl rfl rfl (by kernel_rfl) Try.func7 (by kernel_rfl)
    (of_decide_eq_true (by kernel_rfl)) (by unfold Func.isWrapper; first | (rw [if_pos (by decide +kernel)]; kernel_rfl) | (rw [if_neg (by decide +kernel)]; exact ⟨rfl, rfl⟩))
    (fun os started H enc _ => lifted os started H enc)

/-- THE STATEMENT -/
theorem proved : Rows.LexerPrefixSaid := over
end Go.Proofs.Ytnfbmclaenodaaa.lexerPrefix
