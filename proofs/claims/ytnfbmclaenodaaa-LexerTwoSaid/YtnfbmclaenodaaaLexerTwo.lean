/-
  LexerTwo: for every two strings the law returns true: with a blank between they have the tokens of both, or the first error of the two. No condition.
-/
import Derived.Test.YtnfbmclaenodaaaLxV
import Derived.Test.YtnfbmclaenodaaaRows
import Derived.ProofKit
import Derived.OpenShut
import Derived.ShutString
namespace Go.Proofs.Ytnfbmclaenodaaa.lexerTwo
open Go.ChangeShapes Go.WideShapes Go.ChangeAt Go.RowKit Go.Proofs.Ytnfbmclaenodaaa Go.Proofs.Ytnfbmclaenodaaa.Lx
open Go.ChangeMaps (open_string shut_string)
set_option linter.unusedVariables false
set_option linter.unusedSimpArgs false

set_option maxHeartbeats 4000000 in
set_option maxRecDepth 100000 in
theorem big (a b : ByteArray) (ha : a.size ≤ maxLen) (hb : b.size ≤ maxLen) (h : 2000 ≤ a.size ∨ 2000 ≤ b.size) (w : World) :
    Calls Try.prog 6 #[.string a, .string b] w fun e w' => e = .returned (.bool true) ∧ Below w.heap.size w w' := by
  unfold maxLen at ha hb
  by_cases h1 : 2000 ≤ a.size
  · go_enter Try.func6, Try.ntmps6
    go_wp2_with fail
    refine (awake_any _).mono ?_
    rintro e w1 ⟨rfl, hb1⟩
    go_wp2_with fail
    refine (awake_any _).mono ?_
    rintro e w2 ⟨rfl, hb2⟩
    go_wp2_with fail
    go_ret
    exact ⟨rfl, hb1.trans (hb2.mono hb1.size)⟩
  · have h2 : 2000 ≤ b.size := by omega
    clear h
    go_enter Try.func6, Try.ntmps6
    go_wp2_with fail
    refine (awake_any _).mono ?_
    rintro e w1 ⟨rfl, hb1⟩
    go_wp2_with fail
    refine (awake_any _).mono ?_
    rintro e w2 ⟨rfl, hb2⟩
    go_wp2_with fail
    go_ret
    exact ⟨rfl, hb1.trans (hb2.mono hb1.size)⟩

set_option maxHeartbeats 4000000 in
set_option maxRecDepth 100000 in
theorem small (a b : ByteArray) (ha : a.size < 2000) (hb : b.size < 2000) (w : World) :
    Calls Try.prog 6 #[.string a, .string b] w fun e w' => e = .returned (.bool true) ∧ Below w.heap.size w w' := by
  obtain ⟨la, pa, ea, hla⟩ : ∃ la pa ea, lex a.data.toList = (la, pa, ea) := ⟨_, _, _, rfl⟩
  obtain ⟨lb, pb, eb, hlb⟩ : ∃ lb pb eb, lex b.data.toList = (lb, pb, eb) := ⟨_, _, _, rfl⟩
  have hmem := fun t ht => lex_mem b.data.toList t ht
  rw [hlb, size_len] at hmem
  dsimp only at hmem
  have hla' := lex_length a.data.toList
  have hlb' := lex_length b.data.toList
  rw [hla, size_len] at hla'
  rw [hlb, size_len] at hlb'
  dsimp only at hla' hlb'
  obtain ⟨na, hna⟩ : ∃ n, n = la.length := ⟨_, rfl⟩
  obtain ⟨nb, hnb⟩ : ∃ n, n = lb.length := ⟨_, rfl⟩
  have two := lex_two a.data.toList b.data.toList (by rw [size_len]; exact ha) (by rw [size_len]; exact hb)
  rw [hla, hlb] at two
  dsimp only at two
  have hcat : (a ++ ⟨#[32]⟩ ++ b).data.toList = a.data.toList ++ 32 :: b.data.toList := by simp
  rw [← hcat] at two
  have hcsz : (a ++ ⟨#[32]⟩ ++ b).size ≤ 140737488351232 := by
    rw [← size_len, hcat]; simp only [List.length_append, List.length_cons, size_len]; omega
  have HA := Lib.hid hla
  have HB := Lib.hid hlb
  have HNA := Lib.hid hna
  have HNB := Lib.hid hnb
  rw [← hna] at hla'
  rw [← hnb] at hlb'
  have HM := Lib.hid hmem
  have HZ := Lib.hid hcsz
  clear hla hlb hcat hna hnb hmem hcsz
  by_cases h1 : ea = 0
  · by_cases h2 : eb = 0
    · have t := two
      rw [if_neg (by omega), if_neg (by omega)] at t
      obtain ⟨lc, hlc⟩ : ∃ l, l = la ++ lb.map (mv (a.data.toList.length + 1)) := ⟨_, rfl⟩
      rw [← hlc] at t
      obtain ⟨nc, hnc⟩ : ∃ n, n = lc.length := ⟨_, rfl⟩
      have hncs : nc = na + nb := by rw [hnc, hlc, List.length_append, List.length_map, HNA.out, HNB.out]
      have HNC := Lib.hid hnc
      have HC := Lib.hid hncs
      have HL := Lib.hid hlc
      have HT := Lib.hid t
      have hnc4 : nc ≤ 4000 := by omega
      have h1' : ((ea : Int) != 0) = false := by simp; omega
      have h2' : ((eb : Int) != 0) = false := by simp; omega
      have h3' : ((nc : Int) != (na : Int) + (nb : Int)) = false := by simp; omega
      clear two t hlc hnc h1 h2 hncs
      go_enter Try.func6, Try.ntmps6
      go_wp2_with fail
      refine (awake_any _).mono ?_
      rintro e w1 ⟨rfl, hb1⟩
      go_wp2_with fail
      refine (lex_is a (by omega) la pa ea HA.out na HNA.out _).mono ?_
      rintro e w2 ⟨A, ca, rfl, hSa, hb2⟩
      go_wp2_with fail
      refine (lex_is b (by omega) lb pb eb HB.out nb HNB.out _).mono ?_
      rintro e w3 ⟨A', cb, rfl, hSb, hb3⟩
      go_wp2_with fail
      refine (lex_is _ HZ.out lc 0 0 HT.out nc HNC.out _).mono ?_
      rintro e w4 ⟨A'', cc, rfl, hSc, hb4⟩
      have hbel : Below w.heap.size w w4 := by
        have := hb1.size; have := hb2.size; have := hb3.size
        exact ((hb1.trans (hb2.mono (by omega))).trans (hb3.mono (by omega))).trans (hb4.mono (by omega))
      have HSA := Lib.hid ((hSa.below hb3).belowM hb4 hb3.size)
      have HSB := Lib.hid (hSb.below hb4)
      have HSC := Lib.hid hSc
      clear hSa hSb hSc
      go_wp2_with fail
      go_loopw [87] (fun j wr => ∃ (i : Nat), i ≤ nc ∧ j = .int .i64 i ∧ (∃ k, wr = w4.drewN k)) (fun j _ => nc - (intOf j).toNat)
      case atStart => exact ⟨0, Nat.zero_le _, rfl, 0, rfl⟩
      case round =>
        obtain ⟨i, hi, rfl, k, rfl⟩ := hrel
        obtain ⟨wo, hwo⟩ : ∃ wo, wo = w4.drewN k := ⟨_, rfl⟩
        rw [← hwo]
        have HW := Lib.hid hwo
        have hcell : ∀ q, wo.cell? q = w4.cell? q := by intro q; rw [hwo]; rfl
        have HQ := Lib.hid hcell
        clear hwo hcell
        by_cases hlt : i < nc
        · obtain ⟨b3, o3, rfl, c0, c1, c2⟩ := HSC.out.tok HNC.out i hlt
          rw [← HQ.out] at c0 c1 c2
          obtain ⟨x, hx⟩ : ∃ x, x = lc[i]'(by rw [← HNC.out]; exact hlt) := ⟨_, rfl⟩
          rw [← hx] at c0 c1 c2
          by_cases hia : i < na
          · obtain ⟨b1, o1, rfl, d0, d1, d2⟩ := HSA.out.tok HNA.out i hia
            rw [← HQ.out] at d0 d1 d2
            have hxa : la[i]'(by rw [← HNA.out]; exact hia) = x := by
              rw [hx]; have hl := HL.out; simp only [hl]; rw [List.getElem_append_left]
            rw [hxa] at d0 d1 d2
            obtain ⟨kx, tx, px⟩ := x
            dsimp only at c0 c1 c2 d0 d1 d2
            have g1 : decide ((i : Int) < (na : Int)) = true := by simp; omega
            have g2 : decide ((na : Int) ≤ (i : Int)) = false := by simp; omega
            have g4 : decide (na ≤ i) = false := by simp; omega
            have g3 : (na : Int) ≤ 4000 := by omega
            clear hx hxa
            go_wp2_with fail
            go_quiet (fail)
            go_wp2_with fail
            go_quiet (fail)
            go_wp2
            go_roundw
            case rel => exact ⟨i + 1, by omega, by go_num, by rw [HW.out]; exact ⟨_, by first | rfl | (simp only [World.drewN_drewN]; rfl)⟩⟩
            case measure => simp [intOf]; omega
          · have hjb : i - na < nb := by have := HC.out; omega
            obtain ⟨b2, o2, rfl, d0, d1, d2⟩ := HSB.out.tok HNB.out (i - na) hjb
            rw [← HQ.out] at d0 d1 d2
            obtain ⟨y, hy⟩ : ∃ y, y = lb[i - na]'(by rw [← HNB.out]; exact hjb) := ⟨_, rfl⟩
            rw [← hy] at d0 d1 d2
            have hxb : x = mv (a.data.toList.length + 1) y := by
              have hl := HL.out
              have e1 : ¬ i < la.length := by rw [← HNA.out]; exact hia
              rw [hx]; simp only [hl]
              rw [List.getElem_append_right (by omega), List.getElem_map, hy]
              have e : i - la.length = i - na := by rw [HNA.out]
              simp only [e]
            have hym : y ∈ lb := by rw [hy]; exact List.getElem_mem _
            have hyp := HM.out y hym
            obtain ⟨kx, tx, px⟩ := x
            obtain ⟨ky, ty, py⟩ := y
            simp only [mv, Tok.mk.injEq, size_len] at hxb
            obtain ⟨e1, e2, e3⟩ := hxb
            subst e1; subst e2; subst e3
            dsimp only at c0 c1 c2 d0 d1 d2 hyp
            obtain ⟨sx, hsx⟩ : ∃ s, s = bs tx := ⟨_, rfl⟩
            rw [← hsx] at c1 d1
            obtain ⟨px, hpx⟩ : ∃ p, p = py + (a.size + 1) := ⟨_, rfl⟩
            rw [← hpx] at c2
            have g1 : decide ((i : Int) < (na : Int)) = false := by simp; omega
            have g2 : decide ((na : Int) ≤ (i : Int)) = true := by simp; omega
            have g4 : decide (i < na) = false := by simp; omega
            have g5 : decide (na ≤ i) = true := by simp; omega
            have z0 : (sx.toList != sx.toList) = false := by simp
            have z1 : IntKind.i64.wrap ((i : Int) - (na : Int)) = (i : Int) - (na : Int) := IntWalk.i64_in _ (by omega)
            have z2 : ((i : Int) - (na : Int)).toNat = i - na := by omega
            have z3 : 0 ≤ (i : Int) - (na : Int) := by omega
            have z4 : (i : Int) - (na : Int) < (nb : Int) := by omega
            have z5 : IntKind.i64.wrap ((py : Int) + (a.size : Int)) = (py : Int) + (a.size : Int) := IntWalk.i64_in _ (by omega)
            have z6 : IntKind.i64.wrap ((py : Int) + (a.size : Int) + 1) = (py : Int) + (a.size : Int) + 1 := IntWalk.i64_in _ (by omega)
            have z7 : ((px : Int) != (py : Int) + (a.size : Int) + 1) = false := by simp; omega
            clear hx hy hym hyp hsx hpx
            go_wp2_with fail
            go_quiet (fail)
            go_wp2_with fail
            go_quiet (fail)
            clear z1 z2 z5 z6
            go_wp2
            go_roundw
            case rel => exact ⟨i + 1, by omega, by go_num, by rw [HW.out]; exact ⟨_, by first | rfl | (simp only [World.drewN_drewN]; rfl)⟩⟩
            case measure => simp [intOf]; omega
        · go_wp2
          go_ret
          exact ⟨rfl, by rw [HW.out]; exact below_drewN hbel k⟩
    · have t := two
      rw [if_neg (by omega), if_pos h2, size_len] at t
      have HT := Lib.hid t
      have h1' : ((ea : Int) != 0) = false := by simp; omega
      have h2' : ((eb : Int) != 0) = true := by simp; omega
      have hpb : pb ≤ 4000 := by
        have := HB.out
        rw [lex_small _ (by rw [size_len]; omega)] at this
        split at this
        · injection this with _ t2
          injection t2 with t3 t4
          omega
        · injection this with _ t2
          injection t2 with t3 t4
          have hh : ∀ (p : Nat) (r : Bytes), (lexBl p r).2.1 ≤ p + r.length := by
            refine lexBl_ind (fun _ => by rw [lexBl_nil]; exact Nat.zero_le _) (fun p c r hb ih => ?_) (fun p c r hb hn => ?_) (fun p c r hb hn ih => ?_)
            · rw [lexBl_blank _ _ _ hb]; simp only [List.length_cons]; omega
            · rw [lexBl_non _ _ _ hb, lexA_err _ _ (by simp) hn]; exact Nat.le_add_right _ _
            · obtain ⟨q1, q2, _⟩ := next_ok _ hn
              rw [lexBl_non _ _ _ hb, lexA_ok' _ _ (by simp) hn]
              rw [List.length_drop] at ih
              dsimp only
              omega
          have := hh 0 b.data.toList
          rw [size_len] at this
          omega
      have h3' : (((a.size + 1 + pb : Nat) : Int) == (a.size : Int) + 1 + (pb : Int)) = true := by simp; try omega
      obtain ⟨q, hq⟩ : ∃ q, q = a.size + 1 + pb := ⟨_, rfl⟩
      rw [← hq] at t h3'
      have HT := Lib.hid t
      clear two t h1 h2 hq
      go_enter Try.func6, Try.ntmps6
      go_wp2_with fail
      refine (awake_any _).mono ?_
      rintro e w1 ⟨rfl, hb1⟩
      go_wp2_with fail
      refine (lex_is a (by omega) la pa ea HA.out na HNA.out _).mono ?_
      rintro e w2 ⟨A, ca, rfl, hSa, hb2⟩
      go_wp2_with fail
      refine (lex_is b (by omega) lb pb eb HB.out nb HNB.out _).mono ?_
      rintro e w3 ⟨A', cb, rfl, hSb, hb3⟩
      go_wp2_with fail
      refine (lex_is _ HZ.out [] q eb HT.out 0 rfl _).mono ?_
      rintro e w4 ⟨A'', cc, rfl, hSc, hb4⟩
      have hbel : Below w.heap.size w w4 := by
        have := hb1.size; have := hb2.size; have := hb3.size
        exact ((hb1.trans (hb2.mono (by omega))).trans (hb3.mono (by omega))).trans (hb4.mono (by omega))
      clear hSa hSb hSc
      go_wp2
      go_ret
      exact ⟨rfl, hbel⟩
  · have t := two
    rw [if_pos h1] at t
    have HT := Lib.hid t
    have h1' : ((ea : Int) != 0) = true := by simp; omega
    clear two t h1
    go_enter Try.func6, Try.ntmps6
    go_wp2_with fail
    refine (awake_any _).mono ?_
    rintro e w1 ⟨rfl, hb1⟩
    go_wp2_with fail
    refine (lex_is a (by omega) la pa ea HA.out na HNA.out _).mono ?_
    rintro e w2 ⟨A, ca, rfl, hSa, hb2⟩
    go_wp2_with fail
    refine (lex_is b (by omega) lb pb eb HB.out nb HNB.out _).mono ?_
    rintro e w3 ⟨A', cb, rfl, hSb, hb3⟩
    go_wp2_with fail
    refine (lex_is _ HZ.out la pa ea HT.out na HNA.out _).mono ?_
    rintro e w4 ⟨A'', cc, rfl, hSc, hb4⟩
    have hbel : Below w.heap.size w w4 := by
      have := hb1.size; have := hb2.size; have := hb3.size
      exact ((hb1.trans (hb2.mono (by omega))).trans (hb3.mono (by omega))).trans (hb4.mono (by omega))
    clear hSa hSb hSc
    go_wp2
    go_ret
    exact ⟨rfl, hbel⟩

theorem walk (a b : ByteArray) (ha : a.size ≤ maxLen) (hb : b.size ≤ maxLen) (w : World) :
    Calls Try.prog 6 #[.string a, .string b] w fun e w' => e = .returned (.bool true) ∧ Below w.heap.size w w' := by
  by_cases h : 2000 ≤ a.size ∨ 2000 ≤ b.size
  · exact big a b ha hb h w
  · exact small a b (by omega) (by omega) w

theorem own : ownKnob Try.prog.godebug = none := by kernel_rfl

set_option maxRecDepth 100000 in
theorem lifted (os : Os) (started : os.Started) (H : Type) (enc : TypeId × Value → H) :
    ReturnsInHanded {} Try.checked os 6 .any (Rows.lexerTwoSpec.pre6 enc Try.prog Try.f6 Rows.lexerTwoRow.domain false) (Rows.lexerTwoSpec.post enc Try.prog Try.f6 false true false false) := by
  refine returnsInHanded_of_change (C := Try.checked) own started (by kernel_rfl) Try.func6
    (ChangeSpec.witness6 (enc := enc) (C := Try.checked) false ⟨#[], #[.string ByteArray.empty, .string ByteArray.empty], []⟩ 8 (by kernel_rfl) (by kernel_rfl) (by kernel_rfl) (by kernel_rfl)) ?_
  intro W base args ds gs before hval0 hW hcnd _
  have hval : ∀ (j : Nat) t v, Try.f6.params[j]? = some t → args[j]? = some v → Value.okWide Try.prog W .any base t v := hval0
  have hW' := hW
  obtain ⟨p, q, hA0, hV, rfl, hfz, hnd⟩ := hW
  have hA : DataW.TrodAll enc Try.prog W 0 (fun _ => true) true Try.f6.params.toList args.toList ds p := hA0
  rw [Try.params6] at hA hval
  obtain ⟨v0, vs0, d0, ds0, p0, q0, hargs, rfl, rfl, h0, r0⟩ := trodAll_cons hA
  obtain ⟨v1, vs1, d1, ds1, p1, q1, rfl, rfl, rfl, h1, r1⟩ := trodAll_cons r0
  obtain ⟨rfl, rfl, rfl⟩ := trodAll_nil r1
  obtain rfl : args = #[v0, v1] := by cases args; simp_all
  obtain ⟨rfl, rfl⟩ := trodVars_none hV
  obtain ⟨a0, rfl, rfl, rfl, w0⟩ := open_string Try.underlying9 (hval 0 9 v0 rfl rfl) h0
  obtain ⟨a1, rfl, rfl, rfl, w1⟩ := open_string Try.underlying9 (hval 1 9 v1 rfl rfl) h1
  clear hA0 hval0
  simp only [List.append_nil] at hW'
  refine (walk a0 a1 w0 w1 W).mono fun e W' ⟨he, bel⟩ => ?_
  subst he
  exact ⟨_, rfl, _, _, _, [], _, [], hW', trodAll_mk1 (shut_bool Try.underlying4 _), (trodAll_cons_mk (shut_string Try.underlying9 w0) (trodAll_cons_mk (shut_string Try.underlying9 w1) trodAll_mk0)), rfl, bel.frame _, fun h => by cases h⟩

theorem over : Rows.lexerTwoRow.holds Try.pinned (OpenSpec.ofChange Rows.lexerTwoSpec) :=
  OpenClaim.holds_of_wide 6 Try.f6 rfl rfl rfl rfl rfl rfl rfl ⟨rfl, rfl, rfl, rfl, rfl⟩ rfl rfl rfl rfl rfl (by kernel_rfl) Try.func6 (by kernel_rfl)
    (of_decide_eq_true (by kernel_rfl)) (by unfold Func.isWrapper; first | (rw [if_pos (by decide +kernel)]; kernel_rfl) | (rw [if_neg (by decide +kernel)]; exact ⟨rfl, rfl⟩))
    (fun os started H enc _ => lifted os started H enc)

/-- THE STATEMENT -/
theorem proved : Rows.LexerTwoSaid := over
end Go.Proofs.Ytnfbmclaenodaaa.lexerTwo
