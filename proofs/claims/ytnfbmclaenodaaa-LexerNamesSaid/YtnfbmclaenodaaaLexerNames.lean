/-
  LexerNames: for every string the law returns true: it is one Name exactly if it is a valid name, and one Word exactly if IsWord says so. No condition.
-/
import Derived.Test.YtnfbmclaenodaaaLxV
import Derived.Test.YtnfbmclaenodaaaLxPlainF
import Derived.Test.YtnfbmclaenodaaaFmValid
import Derived.Test.YtnfbmclaenodaaaRows
import Derived.ProofKit
import Derived.OpenShut
import Derived.ShutString
namespace Go.Proofs.Ytnfbmclaenodaaa.lexerNames
open Go.ChangeShapes Go.WideShapes Go.ChangeAt Go.RowKit Go.Proofs.Ytnfbmclaenodaaa Go.Proofs.Ytnfbmclaenodaaa.Lx
open Go.ChangeMaps (open_string shut_string)
set_option linter.unusedVariables false
set_option linter.unusedSimpArgs false

theorem ltr_dig (c : UInt8) (h : ltr c = true) : dig c = false := by
  by_cases hd : dig c = true
  · rw [dig_ltr c hd] at h; cases h
  · simpa using hd

theorem valid_next (s : Bytes) : validB s = true ↔ (next s = (2, s.length, 0) ∧ s ≠ []) := by
  constructor
  · intro h
    unfold validB at h
    simp only [Bool.and_eq_true, decide_eq_true_eq, Bool.not_eq_true'] at h
    obtain ⟨h1, h2, h3⟩ := h
    match s with
    | [] => simp [nameB] at h2
    | c :: r =>
      have h2' : (ltr c && r.all aln) = true := h2
      rw [Bool.and_eq_true] at h2'
      obtain ⟨hc, ha⟩ := h2'
      have hrun : run aln (c :: r) = (c :: r).length := by
        rw [run_cons, if_pos (by simp [aln, hc])]
        have := (all_take aln r r.length (Nat.le_refl _)).1 (by rw [List.take_of_length_le (Nat.le_refl _)]; exact ha)
        have h5 := run_le aln r
        simp only [List.length_cons]
        omega
      refine ⟨?_, by simp⟩
      unfold next
      dsimp only
      rw [ltr_dig c hc, hc, hrun, if_neg (by decide), if_pos rfl, if_neg (by omega), List.take_of_length_le (Nat.le_refl _), h3]
      rfl
  · rintro ⟨hn, h0⟩
    match s, h0 with
    | c :: r, _ =>
      unfold next at hn
      dsimp only at hn
      split at hn
      · split at hn
        · injection hn with h1 h2; injection h1
        · split at hn
          · injection hn with h1 h2; injection h1
          · injection hn with h1 h2; injection h1 with h1; injection h1
      · split at hn
        · rename_i hd hc
          split at hn
          · injection hn with h1 h2; injection h1
          · rename_i h16
            injection hn with h1 h2
            injection h2 with h2 h3
            rw [h2] at h16
            rw [h2, List.take_of_length_le (Nat.le_refl _)] at h1
            have hw : isWord (c :: r) = false := by
              by_cases hw : isWord (c :: r) = true
              · rw [if_pos hw] at h1; simp at h1
              · simpa using hw
            have ha : (c :: r).all aln = true := by
              have := (all_take aln (c :: r) (c :: r).length (Nat.le_refl _)).2 (by omega)
              rwa [List.take_of_length_le (Nat.le_refl _)] at this
            have hnm : nameB (c :: r) = true := by
              show (ltr c && r.all aln) = true
              rw [List.all_cons, Bool.and_eq_true] at ha
              rw [hc, ha.2]; rfl
            unfold validB
            rw [hnm, hw, decide_eq_true (by omega)]
            rfl
        · split at hn
          · injection hn with h1 h2; simp at h1
          · injection hn with h1 h2; simp at h1

theorem valid_is (s : ByteArray) (hs : s.size ≤ 140737488351232) (b : Bool) (h : validB s.data.toList = b) (W : World) :
    Calls Try.prog 19 #[.string s] W fun e w' => e = .returned (.bool b) ∧ W = w' := by subst h; exact valid_any s W hs
theorem word_is (s : ByteArray) (b : Bool) (h : isWord s.data.toList = b) (W : World) :
    Calls Try.prog 20 #[.string s] W fun e w' => e = .returned (.bool b) ∧ W = w' := by subst h; exact isWord_any s W
theorem rword_is (s : ByteArray) (b : Bool) (h : isWord s.data.toList = b) (W : World) :
    Calls Try.prog 21 #[.string s] W fun e w' => e = .returned (.bool b) ∧ Below W.heap.size W w' := by subst h; exact risWord_any s W

set_option maxHeartbeats 4000000 in
set_option maxRecDepth 100000 in
theorem big (s : ByteArray) (hs : s.size ≤ maxLen) (h : 40 < s.size) (w : World) :
    Calls Try.prog 10 #[.string s] w fun e w' => e = .returned (.bool true) ∧ Below w.heap.size w w' := by
  unfold maxLen at hs
  go_enter Try.func10, Try.ntmps10
  go_wp2_with fail
  refine (awake_any _).mono ?_
  rintro e w1 ⟨rfl, hb1⟩
  go_wp2_with fail
  refine (awake_any _).mono ?_
  rintro e w2 ⟨rfl, hb2⟩
  go_wp2_with fail
  go_ret
  exact ⟨rfl, hb1.trans (hb2.mono hb1.size)⟩

/-- no token, or several, or another text: neither a name nor a word -/
theorem neither (s : Bytes) (h : s.length ≤ 4000) (h1 : ¬ ∃ t, (lex s).1 = [t] ∧ t.text = s) : validB s = false ∧ isWord s = false := by
  constructor
  · by_cases hv : validB s = true
    · obtain ⟨hn, h0⟩ := (valid_next s).1 hv
      exact absurd ⟨_, by rw [lex_one_of s h h0 2 hn], rfl⟩ h1
    · simpa using hv
  · by_cases hv : isWord s = true
    · obtain ⟨hn, h0⟩ := next_word s hv
      exact absurd ⟨_, by rw [lex_one_of s h h0 3 hn], rfl⟩ h1
    · simpa using hv

set_option maxHeartbeats 4000000 in
set_option maxRecDepth 100000 in
theorem none_ (s : ByteArray) (hs : s.size ≤ 40) (w : World) (hno : validB s.data.toList = false ∧ isWord s.data.toList = false)
    (hcase : (lex s.data.toList).2.2 ≠ 0 ∨ ((lex s.data.toList).2.2 = 0 ∧ (lex s.data.toList).1.length ≠ 1)) :
    Calls Try.prog 10 #[.string s] w fun e w' => e = .returned (.bool true) ∧ Below w.heap.size w w' := by
  obtain ⟨ls, ps, es, hls⟩ : ∃ la pa ea, lex s.data.toList = (la, pa, ea) := ⟨_, _, _, rfl⟩
  obtain ⟨nl, hnl⟩ : ∃ n, n = ls.length := ⟨_, rfl⟩
  rw [hls] at hcase
  dsimp only at hcase
  rw [← hnl] at hcase
  have HL := Lib.hid hls
  have HN := Lib.hid hnl
  have HV := Lib.hid hno.1
  have HW := Lib.hid hno.2
  clear hls hnl hno
  rcases hcase with h | ⟨h, h2⟩
  · have he : ((es : Int) == 0) = false := by rw [beq_eq_false_iff_ne]; omega
    clear h
    go_enter Try.func10, Try.ntmps10
    go_wp2_with fail
    refine (awake_any _).mono ?_
    rintro e w1 ⟨rfl, hb1⟩
    go_wp2_with fail
    refine (lex_is s (by omega) ls ps es HL.out nl HN.out _).mono ?_
    rintro e w2 ⟨A, ca, rfl, hSa, hb2⟩
    clear hSa
    go_wp2_with (first | (go_at_call 19; refine (valid_is s (by omega) false HV.out _).mono ?_; rintro e w' ⟨rfl, rfl⟩) | (go_at_call 20; refine (word_is s false HW.out _).mono ?_; rintro e w' ⟨rfl, rfl⟩) | (go_at_call 21; refine (rword_is s false HW.out _).mono ?_; rintro e w3 ⟨rfl, hb3⟩))
    go_ret
    have g1 := hb1.size
    have g2 := hb2.size
    exact ⟨rfl, (hb1.trans (hb2.mono g1)).trans (hb3.mono (by omega))⟩
  · have he : ((es : Int) == 0) = true := by rw [beq_iff_eq]; omega
    have hn : ((nl : Int) == 1) = false := by rw [beq_eq_false_iff_ne]; omega
    clear h h2
    go_enter Try.func10, Try.ntmps10
    go_wp2_with fail
    refine (awake_any _).mono ?_
    rintro e w1 ⟨rfl, hb1⟩
    go_wp2_with fail
    refine (lex_is s (by omega) ls ps es HL.out nl HN.out _).mono ?_
    rintro e w2 ⟨A, ca, rfl, hSa, hb2⟩
    clear hSa
    go_wp2_with (first | (go_at_call 19; refine (valid_is s (by omega) false HV.out _).mono ?_; rintro e w' ⟨rfl, rfl⟩) | (go_at_call 20; refine (word_is s false HW.out _).mono ?_; rintro e w' ⟨rfl, rfl⟩) | (go_at_call 21; refine (rword_is s false HW.out _).mono ?_; rintro e w3 ⟨rfl, hb3⟩))
    go_ret
    have g1 := hb1.size
    have g2 := hb2.size
    exact ⟨rfl, (hb1.trans (hb2.mono g1)).trans (hb3.mono (by omega))⟩

set_option maxHeartbeats 4000000 in
set_option maxRecDepth 100000 in
theorem one (s : ByteArray) (hs : s.size ≤ 40) (w : World) (t : Tok) (hl : lex s.data.toList = ([t], 0, 0)) :
    Calls Try.prog 10 #[.string s] w fun e w' => e = .returned (.bool true) ∧ Below w.heap.size w w' := by
  have HL := Lib.hid hl
  obtain ⟨kd, tx, px⟩ := t
  obtain ⟨sx, hsx⟩ : ∃ x, x = bs tx := ⟨_, rfl⟩
  have HSX := Lib.hid hsx
  have four : ∃ e V I : Bool, (sx.toList == s.toList) = e ∧ validB s.data.toList = V ∧ isWord s.data.toList = I ∧ (e && ((kd : Int) == 2)) = V ∧ (e && ((kd : Int) == 3)) = I := by
    by_cases he : (sx.toList == s.toList) = true
    · have htx : tx = s.data.toList := by
        rw [beq_iff_eq, hsx, bs_toList, ByteArray.toList_eq] at he; exact he
      obtain ⟨hn, h0⟩ := lex_one s.data.toList (by rw [size_len]; omega) ⟨kd, tx, px⟩ (by rw [hl]) htx
      dsimp only at hn
      refine ⟨true, _, _, he, rfl, rfl, ?_, ?_⟩
      · rw [Bool.true_and]
        by_cases hk : kd = 2
        · subst hk
          rw [(valid_next s.data.toList).2 ⟨hn, h0⟩]; rfl
        · have : validB s.data.toList = false := by
            by_cases hv : validB s.data.toList = true
            · have := ((valid_next s.data.toList).1 hv).1
              rw [hn] at this
              injection this with h1 h2
              exact absurd h1 hk
            · simpa using hv
          rw [this, beq_eq_false_iff_ne]; omega
      · rw [Bool.true_and]
        by_cases hk : kd = 3
        · subst hk
          rw [kind3_word s.data.toList hn h0]; rfl
        · have : isWord s.data.toList = false := by
            by_cases hv : isWord s.data.toList = true
            · have := (next_word s.data.toList hv).1
              rw [hn] at this
              injection this with h1 h2
              exact absurd h1 hk
            · simpa using hv
          rw [this, beq_eq_false_iff_ne]; omega
    · have he' : (sx.toList == s.toList) = false := by simpa using he
      obtain ⟨h1, h2⟩ := neither s.data.toList (by rw [size_len]; omega) (by
        rintro ⟨t', h3, h4⟩
        rw [hl] at h3
        injection h3 with h3
        subst h3
        exact he (by rw [beq_iff_eq, hsx, bs_toList, ByteArray.toList_eq]; exact h4))
      exact ⟨false, false, false, he', h1, h2, rfl, rfl⟩
  obtain ⟨e0, V, I, f1, f2, f3, f4, f5⟩ := four
  have F2 := Lib.hid f2
  have F3 := Lib.hid f3
  have F4 := Lib.hid f4
  have F5 := Lib.hid f5
  clear hl hsx f2 f3 f4 f5
  go_enter Try.func10, Try.ntmps10
  go_wp2_with fail
  refine (awake_any _).mono ?_
  rintro e w1 ⟨rfl, hb1⟩
  go_wp2_with fail
  refine (lex_is s (by omega) [⟨kd, tx, px⟩] 0 0 HL.out 1 rfl _).mono ?_
  rintro e w2 ⟨A, ca, rfl, hSa, hb2⟩
  obtain ⟨b, o, rfl, c0, c1, c2⟩ := hSa.tok rfl 0 (by omega)
  have c0' : w2.cell? ⟨b, o, none⟩ = some (.int .i64 kd) := c0
  have c1' : w2.cell? ⟨b, o + 1, none⟩ = some (.string sx) := by rw [HSX.out]; exact c1
  clear c0 c1 c2 hSa
  have f4 := F4.out
  have f5 := F5.out
  clear F4 F5
  cases e0
  · have hV : V = false := by rw [← f4]; rfl
    have hI : I = false := by rw [← f5]; rfl
    subst hV; subst hI
    clear f4 f5
    go_wp2_with (first | (go_at_call 19; refine (valid_is s (by omega) false F2.out _).mono ?_; rintro e w' ⟨rfl, rfl⟩) | (go_at_call 20; refine (word_is s false F3.out _).mono ?_; rintro e w' ⟨rfl, rfl⟩) | (go_at_call 21; refine (rword_is s false F3.out _).mono ?_; rintro e w3 ⟨rfl, hb3⟩))
    go_ret
    have g1 := hb1.size
    have g2 := hb2.size
    exact ⟨rfl, (hb1.trans (hb2.mono g1)).trans (hb3.mono (by omega))⟩
  · rw [Bool.true_and] at f4 f5
    cases V <;> cases I
    all_goals
      go_wp2_with (first | (go_at_call 19; refine (valid_is s (by omega) _ F2.out _).mono ?_; rintro e w' ⟨rfl, rfl⟩) | (go_at_call 20; refine (word_is s _ F3.out _).mono ?_; rintro e w' ⟨rfl, rfl⟩) | (go_at_call 21; refine (rword_is s _ F3.out _).mono ?_; rintro e w3 ⟨rfl, hb3⟩))
      go_ret
      have g1 := hb1.size
      have g2 := hb2.size
      exact ⟨rfl, (hb1.trans (hb2.mono g1)).trans (hb3.mono (by omega))⟩

theorem walk (s : ByteArray) (hs : s.size ≤ maxLen) (w : World) :
    Calls Try.prog 10 #[.string s] w fun e w' => e = .returned (.bool true) ∧ Below w.heap.size w w' := by
  by_cases h : 40 < s.size
  · exact big s hs h w
  · by_cases he : (lex s.data.toList).2.2 = 0
    · by_cases hl : (lex s.data.toList).1.length = 1
      · obtain ⟨t, ht⟩ := List.length_eq_one_iff.1 hl
        refine one s (by omega) w t ?_
        have hok : lex s.data.toList = ((lex s.data.toList).1, 0, 0) := by
          rw [lex_small _ (by rw [size_len]; omega)] at he ⊢
          split
          · rfl
          · rename_i h1; rw [if_neg h1] at he; exact absurd he h1
        rw [ht] at hok
        exact hok
      · exact none_ s (by omega) w (neither _ (by rw [size_len]; omega) (by rintro ⟨t, h1, _⟩; rw [h1] at hl; exact hl rfl)) (.inr ⟨he, hl⟩)
    · exact none_ s (by omega) w (neither _ (by rw [size_len]; omega) (by rintro ⟨t, h1, _⟩; rw [lex_err_nil _ he] at h1; simp at h1)) (.inl he)

theorem own : ownKnob Try.prog.godebug = none := by kernel_rfl

set_option maxRecDepth 100000 in
theorem lifted (os : Os) (started : os.Started) (H : Type) (enc : TypeId × Value → H) :
    ReturnsInHanded {} Try.checked os 10 .any (Rows.lexerNamesSpec.pre6 enc Try.prog Try.f10 Rows.lexerNamesRow.domain false) (Rows.lexerNamesSpec.post enc Try.prog Try.f10 false true false false) := by
  refine returnsInHanded_of_change (C := Try.checked) own started (by kernel_rfl) Try.func10
    (ChangeSpec.witness6 (enc := enc) (C := Try.checked) false ⟨#[], #[.string ByteArray.empty], []⟩ 8 (by kernel_rfl) (by kernel_rfl) (by kernel_rfl) (by kernel_rfl)) ?_
  intro W base args ds gs before hval0 hW hcnd _
  have hval : ∀ (j : Nat) t v, Try.f10.params[j]? = some t → args[j]? = some v → Value.okWide Try.prog W .any base t v := hval0
  have hW' := hW
  obtain ⟨p, q, hA0, hV, rfl, hfz, hnd⟩ := hW
  have hA : DataW.TrodAll enc Try.prog W 0 (fun _ => true) true Try.f10.params.toList args.toList ds p := hA0
  rw [Try.params10] at hA hval
  obtain ⟨v0, vs0, d0, ds0, p0, q0, hargs, rfl, rfl, h0, r0⟩ := trodAll_cons hA
  obtain ⟨rfl, rfl, rfl⟩ := trodAll_nil r0
  obtain rfl : args = #[v0] := by cases args; simp_all
  obtain ⟨rfl, rfl⟩ := trodVars_none hV
  obtain ⟨a0, rfl, rfl, rfl, w0⟩ := open_string Try.underlying9 (hval 0 9 v0 rfl rfl) h0
  clear hA0 hval0
  simp only [List.append_nil] at hW'
  refine (walk a0 w0 W).mono fun e W' ⟨he, bel⟩ => ?_
  subst he
  exact ⟨_, rfl, _, _, _, [], _, [], hW', trodAll_mk1 (shut_bool Try.underlying4 _), (trodAll_cons_mk (shut_string Try.underlying9 w0) trodAll_mk0), rfl, bel.frame _, fun h => by cases h⟩

theorem over : Rows.lexerNamesRow.holds Try.pinned (OpenSpec.ofChange Rows.lexerNamesSpec) :=
  OpenClaim.holds_of_wide 10 Try.f10 rfl rfl rfl rfl rfl rfl rfl ⟨rfl, rfl, rfl, rfl, rfl⟩ rfl rfl rfl rfl rfl (by kernel_rfl) Try.func10 (by kernel_rfl)
    (of_decide_eq_true (by kernel_rfl)) (by unfold Func.isWrapper; first | (rw [if_pos (by decide +kernel)]; kernel_rfl) | (rw [if_neg (by decide +kernel)]; exact ⟨rfl, rfl⟩))
    (fun os started H enc _ => lifted os started H enc)

/-- THE STATEMENT -/
theorem proved : Rows.LexerNamesSaid := over
end Go.Proofs.Ytnfbmclaenodaaa.lexerNames
