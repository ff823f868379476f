/-
  LexerPlaces: for every string the law returns true: each token stands at its offset, and only blanks stand between, before and after tokens. No condition.
-/
import Derived.Test.YtnfbmclaenodaaaLxU
import Derived.Test.YtnfbmclaenodaaaLxPlainD
import Derived.Test.YtnfbmclaenodaaaRows
import Derived.ProofKit
import Derived.OpenShut
import Derived.ShutString
namespace Go.Proofs.Ytnfbmclaenodaaa.lexerPlaces
open Go.ChangeShapes Go.WideShapes Go.ChangeAt Go.RowKit Go.Proofs.Ytnfbmclaenodaaa Go.Proofs.Ytnfbmclaenodaaa.Lx
open Go.ChangeMaps (open_string shut_string)
set_option linter.unusedVariables false
set_option linter.unusedSimpArgs false

theorem err_nil (s : Bytes) (h : (lex s).2.2 ≠ 0) : (lex s).1 = [] := by
  unfold lex at h ⊢
  split at h
  · rename_i h0; rw [if_pos h0]
  · rename_i h0
    rw [if_neg h0]
    split at h
    · exact absurd rfl h
    · rename_i h1; rw [if_neg h1]

set_option maxHeartbeats 4000000 in
set_option maxRecDepth 100000 in
theorem walk (s : ByteArray) (hs : s.size ≤ maxLen) (w : World) :
    Calls Try.prog 4 #[.string s] w fun e w' => e = .returned (.bool true) ∧ Below w.heap.size w w' := by
  unfold maxLen at hs
  by_cases h4 : 4000 < s.size
  · go_enter Try.func4, Try.ntmps4
    go_wp2_with fail
    refine (awake_any _).mono ?_
    rintro e w1 ⟨rfl, hb1⟩
    go_wp2_with fail
    refine (awake_any _).mono ?_
    rintro e w2 ⟨rfl, hb2⟩
    go_wp2_with fail
    go_ret
    exact ⟨rfl, hb1.trans (hb2.mono hb1.size)⟩
  · go_enter Try.func4, Try.ntmps4
    go_wp2_with fail
    refine (awake_any _).mono ?_
    rintro e w1 ⟨rfl, hb1⟩
    go_wp2_with fail
    refine (lex_any s _ (by omega)).mono ?_
    rintro e w2 ⟨v, toks, p, er, rfl, hlex, hown, hb2⟩
    have hb12 : Below w.heap.size w w2 := hb1.trans (hb2.mono hb1.size)
    by_cases he : er = 0
    · have he' : ((er : Int) != 0) = false := by simp; omega
      have hpl := placed_lex s.data.toList (by rw [hlex]; exact he)
      rw [hlex] at hpl
      have hlen : toks.length ≤ s.size := by
        have := lex_length s.data.toList
        rwa [hlex, size_len] at this
      have hSl := Sl.of_own hown
      obtain ⟨A, c, rfl⟩ := hSl.form
      obtain ⟨n, hn⟩ : ∃ n, n = toks.length := ⟨_, rfl⟩
      rw [← hn] at hSl hlen ⊢
      have HN := Lib.hid hn
      have HS := Lib.hid hSl
      have HP := Lib.hid hpl
      clear hlex hown hn hSl hpl he
      go_wp2_with fail
      go_loopw [6, 7] (fun a j wr => ∃ (i p : Nat), i ≤ n ∧ a = .int .i64 p ∧ j = .int .i64 i ∧ p ≤ s.size ∧ (∃ k, wr = w2.drewN k) ∧ Hid (Placed s.data.toList p (toks.drop i))) (fun _ j _ => n + 1 - (intOf j).toNat)
      case atStart => exact ⟨0, 0, Nat.zero_le _, rfl, rfl, Nat.zero_le _, ⟨0, rfl⟩, HP⟩
      case round =>
        obtain ⟨i, p, hi, rfl, rfl, hp, ⟨k, rfl⟩, hpl⟩ := hrel
        by_cases hlt : i < n
        · have hit : i < toks.length := by rw [← HN.out]; exact hlt
          have hd := hpl.out
          rw [List.drop_eq_getElem_cons hit] at hd
          obtain ⟨b, o, rfl, hc0, hc1, hc2⟩ := HS.out.tok HN.out i hlt
          obtain ⟨t, ht⟩ : ∃ t, t = toks[i] := ⟨_, rfl⟩
          rw [← ht] at hd hc0 hc1 hc2
          obtain ⟨kd, txl, q⟩ := t
          dsimp only at hc0 hc1 hc2
          obtain ⟨g1, g2, g3, g4, g5, g6⟩ := hd
          dsimp only at g1 g2 g3 g4 g5 g6
          obtain ⟨tx, htx⟩ : ∃ tx, tx = bs txl := ⟨_, rfl⟩
          have hsz : txl.length = tx.size := by rw [htx, bs_size]
          rw [← htx] at hc1
          rw [hsz] at g2 g3 g5 g6
          rw [size_len] at g3
          have heq : ((s.extract q (q + tx.size)).toList == tx.toList) = true := by
            rw [beq_iff_eq, ByteArray.toList_eq, extract_drop, Nat.add_sub_cancel_left, ← g5, htx, bs_toList]
          have hneq : ((s.extract q (q + tx.size)).toList != tx.toList) = false := by rw [bne, heq]; rfl
          have HG4 := Lib.hid g4
          have HG6 := Lib.hid g6
          clear ht htx hsz g4 g5 g6
          obtain ⟨wo, hwo⟩ : ∃ wo, wo = w2.drewN k := ⟨_, rfl⟩
          rw [← hwo]
          have k0 : wo.cell? ⟨b, o + i * 3, none⟩ = some (.int .i64 kd) := by rw [hwo]; exact hc0
          have k1 : wo.cell? ⟨b, o + i * 3 + 1, none⟩ = some (.string tx) := by rw [hwo]; exact hc1
          have k2 : wo.cell? ⟨b, o + i * 3 + 2, none⟩ = some (.int .i64 q) := by rw [hwo]; exact hc2
          have HW := Lib.hid hwo
          clear hwo hc0 hc1 hc2
          have y1 : decide ((q : Int) < (p : Int)) = false := by simp; omega
          have y2 : decide ((s.size : Int) < (q : Int)) = false := by simp; omega
          have y3 : decide (q < p) = false := by simp; omega
          have y4 : decide (s.size < q) = false := by simp; omega
          go_wp2_with fail
          go_loop [9] (fun a => ∃ j : Nat, p ≤ j ∧ j ≤ q ∧ a = .int .i64 j) (fun a => q - (intOf a).toNat)
          case atStart => exact ⟨p, Nat.le_refl _, g1, rfl⟩
          case round =>
            obtain ⟨j, hj1, hj2, rfl⟩ := hrel
            by_cases hjq : j < q
            · have hjs : j < s.size := by omega
              have HB : Hid (bl s[j] = true) := HG4.out j (by rw [size_len]; exact hjs) hj1 hjq
              go_wp2_with (go_at_call 16; refine (rblank_is _ _ true HB.out).mono ?_; rintro e w' ⟨rfl, rfl⟩)
              go_round
              case rel => exact ⟨j + 1, by omega, by omega, by go_num⟩
              case measure => simp [intOf]; omega
            · have z1 : ((tx.size : Int) == 0) = false := by rw [beq_eq_false_iff_ne]; omega
              have z2 : IntKind.i64.wrap ((s.size : Int) - (q : Int)) = (s.size : Int) - (q : Int) := IntWalk.i64_in _ (by omega)
              have z3 : IntKind.i64.wrap ((q : Int) + (tx.size : Int)) = (q : Int) + (tx.size : Int) := IntWalk.i64_in _ (by omega)
              have z4 : decide ((s.size : Int) - (q : Int) < (tx.size : Int)) = false := by simp; omega
              have z5 : ((q : Int) + (tx.size : Int)).toNat = q + tx.size := by omega
              have z6 : 0 ≤ (q : Int) + (tx.size : Int) := by omega
              have z7 : (q : Int) ≤ (q : Int) + (tx.size : Int) := by omega
              have z8 : (q : Int) + (tx.size : Int) ≤ s.size := by omega
              have zn : ((i : Int) == (n : Int)) = false := by simp; omega
              go_wp2_with fail
              go_quiet (fail)
              go_wp2
              go_roundw
              case rel => exact ⟨i + 1, q + tx.size, by omega, by go_num, by go_num, by omega, by rw [HW.out]; exact ⟨_, World.drewN_drewN _ _ _⟩, HG6⟩
              case measure => simp [intOf]; omega
        · obtain ⟨wo, hwo⟩ : ∃ wo, wo = w2.drewN k := ⟨_, rfl⟩
          rw [← hwo]
          have HW := Lib.hid hwo
          have hd := hpl.out
          have hnn : toks.drop i = [] := List.drop_eq_nil_of_le (by have := HN.out; omega)
          rw [hnn] at hd
          obtain ⟨g1, g2⟩ := hd
          have HG2 := Lib.hid g2
          have zn : ((i : Int) == (n : Int)) = true := by simp; omega
          have y1 : decide ((s.size : Int) < (p : Int)) = false := by simp; omega
          have y3 : decide (s.size < p) = false := by simp; omega
          clear hwo g2 hnn
          go_wp2_with fail
          go_loop [9] (fun a => ∃ j : Nat, p ≤ j ∧ j ≤ s.size ∧ a = .int .i64 j) (fun a => s.size - (intOf a).toNat)
          case atStart => exact ⟨p, Nat.le_refl _, hp, rfl⟩
          case round =>
            obtain ⟨j, hj1, hj2, rfl⟩ := hrel
            by_cases hjq : j < s.size
            · have HB : Hid (bl s[j] = true) := HG2.out j (by rw [size_len]; exact hjq) hj1
              go_wp2_with (go_at_call 16; refine (rblank_is _ _ true HB.out).mono ?_; rintro e w' ⟨rfl, rfl⟩)
              go_round
              case rel => exact ⟨j + 1, by omega, by omega, by go_num⟩
              case measure => simp [intOf]; omega
            · go_wp2
              go_ret
              exact ⟨rfl, by rw [HW.out]; exact below_drewN hb12 k⟩
    · have he' : ((er : Int) != 0) = true := by simp; omega
      have hnil : toks = [] := by
        have := err_nil s.data.toList (by rw [hlex]; exact he)
        rwa [hlex] at this
      subst hnil
      have hSl := Sl.of_own hown
      obtain ⟨A, c, rfl⟩ := hSl.form
      clear hlex hown hSl he
      go_wp2_with fail
      go_ret
      exact ⟨rfl, hb12⟩

theorem own : ownKnob Try.prog.godebug = none := by kernel_rfl

set_option maxRecDepth 100000 in
theorem lifted (os : Os) (started : os.Started) (H : Type) (enc : TypeId × Value → H) :
    ReturnsInHanded {} Try.checked os 4 .any (Rows.lexerPlacesSpec.pre6 enc Try.prog Try.f4 Rows.lexerPlacesRow.domain false) (Rows.lexerPlacesSpec.post enc Try.prog Try.f4 false true false false) := by
  refine returnsInHanded_of_change (C := Try.checked) own started (by kernel_rfl) Try.func4
    (ChangeSpec.witness6 (enc := enc) (C := Try.checked) false ⟨#[], #[.string ByteArray.empty], []⟩ 8 (by kernel_rfl) (by kernel_rfl) (by kernel_rfl) (by kernel_rfl)) ?_
  intro W base args ds gs before hval0 hW hcnd _
  have hval : ∀ (j : Nat) t v, Try.f4.params[j]? = some t → args[j]? = some v → Value.okWide Try.prog W .any base t v := hval0
  have hW' := hW
  obtain ⟨p, q, hA0, hV, rfl, hfz, hnd⟩ := hW
  have hA : DataW.TrodAll enc Try.prog W 0 (fun _ => true) true Try.f4.params.toList args.toList ds p := hA0
  rw [Try.params4] at hA hval
  obtain ⟨v0, vs0, d0, ds0, p0, q0, hargs, rfl, rfl, h0, r0⟩ := trodAll_cons hA
  obtain ⟨rfl, rfl, rfl⟩ := trodAll_nil r0
  obtain rfl : args = #[v0] := by cases args; simp_all
  obtain ⟨rfl, rfl⟩ := trodVars_none hV
  obtain ⟨a0, rfl, rfl, rfl, w0⟩ := open_string Try.underlying9 (hval 0 9 v0 rfl rfl) h0
  clear hA0 hval0
  simp only [List.append_nil] at hW'
  refine (walk a0 w0 W).mono fun e W' ⟨he, bel⟩ => ?_
  subst he
  exact ⟨_, rfl, _, _, _, [], _, [], hW', trodAll_mk1 (shut_bool Try.underlying4 _), (trodAll_cons_mk (shut_string Try.underlying9 w0) trodAll_mk0), rfl, bel.frame _, fun h => by cases h⟩

theorem over : Rows.lexerPlacesRow.holds Try.pinned (OpenSpec.ofChange Rows.lexerPlacesSpec) :=
  OpenClaim.holds_of_wide 4 Try.f4 rfl rfl rfl rfl rfl rfl rfl ⟨rfl, rfl, rfl, rfl, rfl⟩ rfl rfl rfl rfl rfl (by kernel_rfl) Try.func4 (by kernel_rfl)
    (of_decide_eq_true (by kernel_rfl)) (by unfold Func.isWrapper; first | (rw [if_pos (by decide +kernel)]; kernel_rfl) | (rw [if_neg (by decide +kernel)]; exact ⟨rfl, rfl⟩))
    (fun os started H enc _ => lifted os started H enc)

/-- THE STATEMENT -/
theorem proved : Rows.LexerPlacesSaid := over
end Go.Proofs.Ytnfbmclaenodaaa.lexerPlaces
