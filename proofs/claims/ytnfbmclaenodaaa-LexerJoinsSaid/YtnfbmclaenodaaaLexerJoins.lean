/-
  LexerJoins: for every list of tokens that came in the law returns true: Join accepts exactly lists of tokens, and the tokens of its result are the list. No condition.
-/
import Derived.Test.YtnfbmclaenodaaaLxK
import Derived.Test.YtnfbmclaenodaaaOpn
import Derived.Test.YtnfbmclaenodaaaRows
import Derived.ProofKit
import Derived.OpenShut
import Derived.ShutString
import Derived.Carry
namespace Go.Proofs.Ytnfbmclaenodaaa.lexerJoins
open Go.ChangeShapes Go.WideShapes Go.ChangeAt Go.RowKit Go.Proofs.Ytnfbmclaenodaaa Go.Proofs.Ytnfbmclaenodaaa.Lx
set_option linter.unusedVariables false
set_option linter.unusedSimpArgs false

set_option maxHeartbeats 4000000 in
set_option maxRecDepth 100000 in
theorem big (A : Option Addr) (n c : Nat) (hn : n ≤ 9223372036854775807) (h : 200 < n) (w : World) :
    Calls Try.prog 11 #[.slice A n c] w fun e w' => e = .returned (.bool true) ∧ Below w.heap.size w w' := by
  have hd : decide ((200 : Int) < n) = true := by simp; omega
  go_enter Try.func11, Try.ntmps11
  go_wp2_with fail
  refine (awake_any _).mono ?_
  rintro e w1 ⟨rfl, hb1⟩
  go_wp2_with fail
  refine (awake_any _).mono ?_
  rintro e w2 ⟨rfl, hb2⟩
  go_wp2_with fail
  go_ret
  exact ⟨rfl, hb1.trans (hb2.mono hb1.size)⟩

set_option maxHeartbeats 8000000 in
set_option maxRecDepth 100000 in
theorem small (l : List ITok) (A : Option Addr) (n c : Nat) (hnl : n = l.length) (h : n ≤ 200) (ht : ∀ t ∈ l, t.text.length ≤ maxLen) (w : World) (hv : Sl w w.heap.size 3 (.slice A n c) n (itokCells l)) :
    Calls Try.prog 11 #[.slice A n c] w fun e w' => e = .returned (.bool true) ∧ Below w.heap.size w w' := by
  have HN := Lib.hid hnl
  have HV := Lib.hid hv
  have HT := Lib.hid ht
  clear hnl hv ht
  go_enter Try.func11, Try.ntmps11
  go_wp2_with fail
  refine (awake_any _).mono ?_
  rintro e w1 ⟨rfl, hb1⟩
  have HV1 := Lib.hid (HV.out.below hb1)
  go_wp2_with fail
  go_loop [21] (fun a_ => ∃ i : Nat, i ≤ n ∧ a_ = .int .i64 i ∧ Hid (∀ j (hj : j < l.length), j < i → l[j].text.length ≤ 60)) (fun a_ => n - (intOf a_).toNat)
  case atStart => exact ⟨0, Nat.zero_le _, rfl, Lib.hid (fun j _ h => by omega)⟩
  case round =>
    obtain ⟨i, hi, rfl, hall⟩ := hrel
    by_cases hlt : i < n
    · have hia : i < l.length := by rw [← HN.out]; exact hlt
      obtain ⟨b1, o1, rfl, _, h0, h1, h2⟩ := HV1.out.itok HN.out i hlt
      obtain ⟨sx, hsx⟩ : ∃ s, bs l[i].text = s := ⟨_, rfl⟩
      rw [hsx] at h1
      have hsz : sx.size = l[i].text.length := by rw [← hsx]; rfl
      have hml := HT.out _ (List.getElem_mem hia)
      rw [← hsz] at hml
      unfold maxLen at hml
      have HSZ := Lib.hid hsz
      clear h0 h2 hsx hsz
      by_cases hs60 : 60 < sx.size
      · go_wp2_with fail
        go_ret
        exact ⟨rfl, hb1⟩
      · have HA := Lib.hid (show ∀ j (hj : j < l.length), j < i + 1 → l[j].text.length ≤ 60 from fun j hj h => by
          rcases Nat.lt_or_eq_of_le (Nat.le_of_lt_succ h) with h' | h'
          · exact hall.out j hj h'
          · subst h'; rw [← HSZ.out]; omega)
        go_wp2_with fail
        go_round
        case rel => exact ⟨i + 1, by omega, by go_num, HA⟩
        case measure => simp [intOf]; omega
    · have hin : i = n := by omega
      have HA := Lib.hid (show ∀ t ∈ l, t.text.length ≤ 60 from fun t ht => by
        obtain ⟨j, hj, rfl⟩ := List.getElem_of_mem ht
        exact hall.out j hj (by have := HN.out; omega))
      clear hall hin
      have hb1s := hb1.size
      have HJ1 := Lib.hid (fun w2 (hb : Below w1.heap.size w1 w2) => join_any l (.slice A n c) w.heap.size n HN.out w2 (by have := hb.size; omega) (HV1.out.belowM hb (by omega)) (by omega) HA.out)
      have HJ2 := Lib.hid (fun w2 (hb : Below w1.heap.size w1 w2) => rjoin_any l (.slice A n c) w.heap.size n HN.out w2 (by have := hb.size; omega) (HV1.out.belowM hb (by omega)) (by omega) HA.out)
      by_cases hok : joinOk l = true
      · have hjv : joinV l = .tuple #[.string (bs (jt l)), .int .i64 0] := by unfold joinV; rw [if_pos hok]
        rw [hjv] at HJ1 HJ2
        have hall : (∀ t ∈ l, isTokB t = true) ∧ (jt l).length ≤ 4000 := by
          unfold joinOk at hok
          simp only [Bool.and_eq_true, List.all_eq_true, decide_eq_true_eq] at hok
          exact hok
        obtain ⟨toks, hlex, hkey⟩ := lex_join l hall.1 hall.2
        have hlen : n = toks.length := by rw [HN.out]; have := congrArg List.length hkey; simpa using this.symm
        obtain ⟨S, hS⟩ : ∃ S, bs (jt l) = S := ⟨_, rfl⟩
        have hSs : S.size ≤ 4000 := by rw [← hS]; exact hall.2
        have hlex' : lex S.data.toList = (toks, 0, 0) := by rw [← hS]; exact hlex
        rw [hS] at HJ1 HJ2
        have hLC := Lib.hid (fun w => lex_is S (by omega) toks 0 0 hlex' n hlen w)
        have HLEN := Lib.hid hlen
        have HKEY := Lib.hid hkey
        clear hjv hall hlex hkey hlen hS hlex' hok
        have hne : (!(S.toList == S.toList)) = false := by simp
        have hne2 : (S.toList != S.toList) = false := by simp
        go_wp2_with (first
          | (go_at_call 22; refine (HJ1.out _ (Below.refl _ _)).mono ?_; rintro e w2 ⟨rfl, hb2⟩)
          | (go_at_call 23; refine (HJ2.out _ hb2).mono ?_; rintro e w3 ⟨rfl, hb3⟩)
          | (go_at_call 13; refine (hLC.out _).mono ?_; rintro e w4 ⟨A4, c4, rfl, hS4, hb4⟩; have HS4 := Lib.hid hS4; clear hS4)
          | (go_at_call 15; refine (rsameI_eq (toks.map toI) l _ _ w4.heap.size _ n (by rw [List.length_map]; exact HLEN.out) HN.out (by rw [← itok_of]; exact HS4.out) (((HV1.out.belowM hb2 hb1s).belowM hb3 (by have := hb2.size; omega)).belowM hb4 (by have := hb2.size; have := hb3.size; omega) |>.more (by have := hb2.size; have := hb3.size; have := hb4.size; omega)) (by rw [keyI_toI]; exact HKEY.out) (by omega)).mono ?_; rintro e w5 ⟨rfl, k5, rfl⟩))
        go_ret
        have s2 := hb2.size
        have s3 := hb3.size
        exact ⟨rfl, below_drewN (((hb1.trans (hb2.mono hb1s)).trans (hb3.mono (by omega))).trans (hb4.mono (by omega))) _⟩
      · have hjv : joinV l = .tuple #[.string (bs []), .int .i64 9] := by unfold joinV; rw [if_neg hok]
        rw [hjv] at HJ1 HJ2
        clear hok hjv
        go_wp2_with (first
          | (go_at_call 22; refine (HJ1.out _ (Below.refl _ _)).mono ?_; rintro e w2 ⟨rfl, hb2⟩)
          | (go_at_call 23; refine (HJ2.out _ hb2).mono ?_; rintro e w3 ⟨rfl, hb3⟩))
        go_ret
        have s2 := hb2.size
        exact ⟨rfl, (hb1.trans (hb2.mono hb1s)).trans (hb3.mono (by omega))⟩

theorem walk (l : List ITok) (A : Option Addr) (n c : Nat) (hnl : n = l.length) (hn : n ≤ maxLen) (ht : ∀ t ∈ l, t.text.length ≤ maxLen) (w : World) (hv : Sl w w.heap.size 3 (.slice A n c) n (itokCells l)) :
    Calls Try.prog 11 #[.slice A n c] w fun e w' => e = .returned (.bool true) ∧ Below w.heap.size w w' := by
  by_cases h : 200 < n
  · exact big A n c (by unfold maxLen at hn; omega) h w
  · exact small l A n c hnl (by omega) ht w hv

theorem own : ownKnob Try.prog.godebug = none := by kernel_rfl
theorem laidOut : laidOutB Try.prog = true := by kernel_rfl

section
variable {H : Type} {enc : TypeId × Value → H} {w : World} {base : Nat} {spare : Nat → Bool} {held : Bool}
theorem open_tok {n : Nat} {cs : List Value} {x : DataW H × List MemPlace} (hl : cs.length = 3) (h : DataW.trod enc Try.prog w base spare held n 30 cs = some x) :
    ∃ t : ITok, cs = itokC t ∧ t.text.length ≤ maxLen := by
  obtain ⟨xs, m, _, _, hlen, hxl, hf⟩ := DataW.trod_struct Try.underlying30 h
  match cs, hl with
  | [c0, c1, c2], _ =>
    have g0 : DataW.trod enc Try.prog w base spare held m 3 (([c0, c1, c2].drop 0).take (Try.prog.cellsOf 3)) = xs[0]? := hf 0 _ rfl
    have g1 : DataW.trod enc Try.prog w base spare held m 9 (([c0, c1, c2].drop 1).take (Try.prog.cellsOf 9)) = xs[1]? := hf 1 _ rfl
    have g2 : DataW.trod enc Try.prog w base spare held m 3 (([c0, c1, c2].drop 2).take (Try.prog.cellsOf 3)) = xs[2]? := hf 2 _ rfl
    have k0 : Try.prog.cellsOf 3 = 1 := by kernel_rfl
    have k1 : Try.prog.cellsOf 9 = 1 := by kernel_rfl
    rw [k0] at g0 g2
    rw [k1] at g1
    have hxl' : xs.length = 3 := hxl
    rw [List.getElem?_eq_getElem (by omega)] at g0 g1 g2
    obtain ⟨a, e0, _, _⟩ := DataW.trod_int Try.underlying3 g0
    obtain ⟨s, e1, _, hs⟩ := DataW.trod_string Try.underlying9 g1
    obtain ⟨b, e2, _, _⟩ := DataW.trod_int Try.underlying3 g2
    simp only [List.drop_zero, List.drop_succ_cons, List.take_succ_cons, List.take_zero, List.cons.injEq, and_true] at e0 e1 e2
    refine ⟨⟨a, s.data.toList, b⟩, ?_, hs⟩
    subst e0; subst e1; subst e2
    rfl

theorem open_toks {fuel : Nat} {cs : List Value} {x : DataW H × List MemPlace} (h : DataW.trod enc Try.prog w base spare held fuel 23 cs = some x) :
    ∃ A n c, cs = [.slice A n c] ∧ ∃ l : List ITok, n = l.length ∧ n ≤ maxLen ∧ (∀ t ∈ l, t.text.length ≤ maxLen) ∧ Sl w w.heap.size 3 (.slice A n c) n (itokCells l) := by
  obtain ⟨A, n, c, m, rfl, _, hc, hm, hrow⟩ := open_rows Try.underlying23 (show Try.prog.cellsOf 30 = 3 by kernel_rfl) (by decide) h
  refine ⟨A, n, c, rfl, ?_⟩
  by_cases h0 : 0 < n
  · obtain ⟨b, o, rfl, hb, hr⟩ := hrow h0
    have hP : ∀ i, i < n → ∃ t : ITok, t.text.length ≤ maxLen ∧ ∀ j u, (itokC t)[j]? = some u → w.cell? ⟨b, o + i * 3 + j, none⟩ = some u := by
      intro i hi
      obtain ⟨cs', x', h1, h2, h3⟩ := hr i hi
      obtain ⟨t, rfl, ht⟩ := open_tok h1 h3
      exact ⟨t, ht, h2⟩
    obtain ⟨l, hl, hp⟩ := list_of hP
    refine ⟨l, hl.symm, Nat.le_trans hc hm, fun t ht => ?_, some ⟨b, o, none⟩, c, rfl, hc, ?_, fun _ => ⟨b, o, rfl, hb, fun j u hj => ?_⟩⟩
    · obtain ⟨i, hi, rfl⟩ := List.getElem_of_mem ht
      exact (hp i hi).1
    · have : ∀ l : List ITok, (itokCells l).length = l.length * 3 := by
        intro l; induction l with
        | nil => rfl
        | cons t l ih => have e : itokCells (t :: l) = itokC t ++ itokCells l := by simp [itokCells]
                         rw [e, List.length_append, ih, List.length_cons]; have : (itokC t).length = 3 := rfl
                         omega
      rw [this, hl]
    · have hlen : ∀ l : List ITok, (itokCells l).length = l.length * 3 := by
        intro l; induction l with
        | nil => rfl
        | cons t l ih => have e : itokCells (t :: l) = itokC t ++ itokCells l := by simp [itokCells]
                         rw [e, List.length_append, ih, List.length_cons]; have : (itokC t).length = 3 := rfl
                         omega
      have hj2 : j < l.length * 3 := by rw [← hlen]; exact (List.getElem?_eq_some_iff.1 hj).1
      have hdiv : j / 3 < l.length := by omega
      obtain ⟨g0, g1, g2⟩ := itokCells_get l (j / 3) hdiv
      have hq := (hp (j / 3) hdiv).2
      have hm3 : j % 3 = 0 ∨ j % 3 = 1 ∨ j % 3 = 2 := by omega
      rcases hm3 with e | e | e
      · have ej : j = j / 3 * 3 := by omega
        rw [ej, g0] at hj
        have := hq 0 u (by rw [← hj]; rfl)
        rw [show o + j = o + j / 3 * 3 + 0 by omega]; exact this
      · have ej : j = j / 3 * 3 + 1 := by omega
        rw [ej, g1] at hj
        have := hq 1 u (by rw [← hj]; rfl)
        rw [show o + j = o + j / 3 * 3 + 1 by omega]; exact this
      · have ej : j = j / 3 * 3 + 2 := by omega
        rw [ej, g2] at hj
        have := hq 2 u (by rw [← hj]; rfl)
        rw [show o + j = o + j / 3 * 3 + 2 by omega]; exact this
  · have : n = 0 := by omega
    subst this
    exact ⟨[], rfl, by unfold maxLen; omega, (fun t ht => by cases ht), A, c, rfl, hc, rfl, fun h => absurd h (by omega)⟩
end

set_option maxRecDepth 100000 in
theorem lifted (os : Os) (started : os.Started) (H : Type) (enc : TypeId × Value → H) :
    ReturnsInHanded {} Try.checked os 11 .any (Rows.lexerJoinsSpec.pre6 enc Try.prog Try.f11 Rows.lexerJoinsRow.domain false) (Rows.lexerJoinsSpec.post enc Try.prog Try.f11 false true false false) := by
  refine returnsInHanded_of_change (C := Try.checked) own started (by kernel_rfl) Try.func11
    (ChangeSpec.witness6 (enc := enc) (C := Try.checked) false ⟨#[], #[.slice none 0 0], []⟩ 8 (by kernel_rfl) (by kernel_rfl) (by kernel_rfl) (by kernel_rfl)) ?_
  intro W base args ds gs before hval0 hW hcnd _
  have hval : ∀ (j : Nat) t v, Try.f11.params[j]? = some t → args[j]? = some v → Value.okWide Try.prog W .any base t v := hval0
  have hW' := hW
  obtain ⟨p, q, hA0, hV, rfl, hfz, hnd⟩ := hW
  have hA : DataW.TrodAll enc Try.prog W 0 (fun _ => true) true Try.f11.params.toList args.toList ds p := hA0
  rw [Try.params11] at hA hval
  obtain ⟨v0, vs0, d0, ds0, p0, q0, hargs, rfl, rfl, h0, r0⟩ := trodAll_cons hA
  obtain ⟨rfl, rfl, rfl⟩ := trodAll_nil r0
  obtain rfl : args = #[v0] := by cases args; simp_all
  obtain ⟨rfl, rfl⟩ := trodVars_none hV
  obtain ⟨A0, n0, c0, rfl⟩ := okWide_slice Try.underlying23 (hval 0 23 v0 rfl rfl)
  clear hA0 hval0
  simp only [List.append_nil] at hW'
  have h0k := h0
  obtain ⟨fuel, hf⟩ := h0
  obtain ⟨A, n, c, he, l, hnl, hn, htl, hS⟩ := open_toks hf
  simp only [Value.cells, List.cons.injEq, and_true] at he
  injection he with e1 e2 e3
  subst e1; subst e2; subst e3
  have hlt : ∀ x ∈ p0, x.block < W.heap.size := fun x hx => by simpa using hW'.lt x (by simpa using hx)
  refine (walk l A0 n0 c0 hnl hn htl W hS).mono fun e W' ⟨he, bel⟩ => ?_
  subst he
  exact ⟨_, rfl, _, _, _, [], _, [], hW', trodAll_mk1 (shut_bool Try.underlying4 _), (trodAll_cons_mk (Below.trod laidOut (by kernel_rfl) (of_decide_eq_true (by kernel_rfl)) h0k bel hlt) trodAll_mk0), rfl, bel.frame _, fun h => by cases h⟩

theorem over : Rows.lexerJoinsRow.holds Try.pinned (OpenSpec.ofChange Rows.lexerJoinsSpec) :=
  OpenClaim.holds_of_wide 11 Try.f11 rfl rfl rfl rfl rfl rfl rfl ⟨rfl, rfl, rfl, rfl, rfl⟩ rfl rfl rfl rfl rfl (by kernel_rfl) Try.func11 (by kernel_rfl)
    (of_decide_eq_true (by kernel_rfl)) (by unfold Func.isWrapper; first | (rw [if_pos (by decide +kernel)]; kernel_rfl) | (rw [if_neg (by decide +kernel)]; exact ⟨rfl, rfl⟩))
    (fun os started H enc _ => lifted os started H enc)

/-- THE STATEMENT -/
theorem proved : Rows.LexerJoinsSaid := over
end Go.Proofs.Ytnfbmclaenodaaa.lexerJoins
