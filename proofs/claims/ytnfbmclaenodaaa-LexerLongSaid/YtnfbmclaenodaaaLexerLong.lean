/-
  LexerLong: for every input the law returns true: a text of more than 4000 equal bytes is refused; one of exactly 4000 is cut like any other. No condition.
-/
import Derived.Test.YtnfbmclaenodaaaLxV
import Derived.Test.YtnfbmclaenodaaaRows
import Derived.ProofKit
import Derived.OpenShut
import Derived.ShutString
import Derived.Laws.IdiomStrings
namespace Go.Proofs.Ytnfbmclaenodaaa.lexerLong
open Go.ChangeShapes Go.WideShapes Go.ChangeAt Go.RowKit Go.Proofs.Ytnfbmclaenodaaa Go.Proofs.Ytnfbmclaenodaaa.Lx
open Go.ChangeMaps (open_string shut_string)
set_option linter.unusedVariables false
set_option linter.unusedSimpArgs false

theorem infoU8 : (Try.prog.info? 5).map (fun i => (i.zero, i.size, i.bytes)) = some (some (.int .u8 0), 1, 1) := by kernel_rfl

theorem conv_rep (w : World) (g n : Nat) (cb : UInt8) (base e : Nat) (xs : List Value) (hown : w.ownsRow base e 1 (.slice (some ⟨g, 0, none⟩) n n) n xs) (hx : ∀ j, j < n → xs[j]? = some (.int .u8 (cb.toNat : Int))) :
    (convert 32 9 (.slice (some ⟨g, 0, none⟩) n n)).run Try.prog w = .ok (.string (bs (List.replicate n cb))) w := by
  have := run_convert_bytes_back (P := Try.prog) w 32 9 5 ⟨g, 0, none⟩ n (List.replicate n cb) Try.underlying32 Try.underlying5 Try.underlying9 (fun j hj => by
    have hadd : (⟨g, 0, none⟩ : Addr).add j = ⟨g, j, none⟩ := by unfold Addr.add; split <;> simp_all
    rw [List.length_replicate] at hj
    rw [hadd, hown.cellAt j (by omega), hx j hj, List.getElem_replicate])
  rw [List.length_replicate] at this
  exact this

set_option maxHeartbeats 4000000 in
set_option maxRecDepth 100000 in
theorem small (q : Nat) (cb : UInt8) (hq : q ≤ 255) (w : World) :
    Calls Try.prog 8 #[.int .u8 (q : Int), .int .u8 (cb.toNat : Int)] w fun e w' => e = .returned (.bool true) ∧ Below w.heap.size w w' := by
  obtain ⟨k, hk⟩ : ∃ k, k = q % 3 := ⟨_, rfl⟩
  have hk3 : k < 3 := by omega
  have hki : (q : Int) % 3 = (k : Int) := by omega
  obtain ⟨n, hn⟩ : ∃ n, n = 4000 + k := ⟨_, rfl⟩
  have hni : 4000 + (k : Int) = (n : Int) := by omega
  have hn1 : 4000 ≤ n ∧ n ≤ 4002 := by omega
  obtain ⟨i0, hi0, hz0, hz1, hz2⟩ := info_parts infoU8
  clear hk
  have HNK := Lib.hid hn
  clear hn
  go_enter Try.func8, Try.ntmps8
  go_wp2_with fail
  refine (awake_any _).mono ?_
  rintro e w1 ⟨rfl, hb1⟩
  go_wp2_with (at_make; refine wpList_make_full _ rfl (.tmp 20) (.tmp 20) 32 rfl w.heap.size 5 i0 (.int .u8 0) 1 Try.underlying32 hi0 hz0 hz1 .i64 .i64 _ _ n rfl rfl (by rfl) (by rfl) ?c1 ?c2 ?c3 ?_; rotate_right; intro w2 hown2 hg2)
  case c1 => rw [hz2]; omega
  case c2 => unfold maxLen; omega
  case c3 => exact hb1.size
  have hbel2 : Below w.heap.size w w2 := hb1.grown hg2 hb1.size (fun k h => by cases h)
  go_loopw [24] (fun j wr => ∃ (i : Nat) (xs : List Value), i ≤ n ∧ j = .int .i64 i ∧ wr.ownsRow w.heap.size 5 1 (.slice (some ⟨w1.heap.size, 0, none⟩) n n) n xs ∧ (∀ j, j < i → xs[j]? = some (.int .u8 (cb.toNat : Int))) ∧ Below w.heap.size w wr) (fun j _ => n - (intOf j).toNat)
  case atStart => exact ⟨0, _, Nat.zero_le _, rfl, hown2, fun j h => by omega, hbel2⟩
  case round =>
    obtain ⟨i, xs, hi, rfl, hown, hxs, hbel⟩ := hrel
    have HXS := Lib.hid hxs
    have HO := Lib.hid hown
    clear hxs
    by_cases hlt : i < n
    · have hc : wr.cell? ⟨w1.heap.size, i, none⟩ = xs[i]? := hown.cellAt i (by omega)
      have hlx : xs.length = n := by have := hown.1; omega
      have hix : i < xs.length := by omega
      have hc2 : wr.cell? ⟨w1.heap.size, i, none⟩ = some xs[i] := by rw [hc, List.getElem?_eq_getElem hix]
      have hf : wr.frozen? ⟨w1.heap.size, i, none⟩ = false := hown.frozenAt i
      have HLX := Lib.hid hlx
      clear hc hlx hown
      go_wp2
      go_roundw
      case rel =>
        have hst := HO.out.stored i (.int .u8 (cb.toNat : Int))
        refine ⟨i + 1, _, by omega, by go_num, hst.1, fun j hj => ?_, hbel.grown hst.2 hbel.size (fun g hg => by injection hg with hg; subst hg; exact hb1.size)⟩
        rw [List.getElem?_set]
        by_cases hji : i = j
        · subst hji; simp [hix]
        · rw [if_neg hji]; exact HXS.out j (by omega)
      case measure => simp [intOf]; omega
    · have hin : i = n := by omega
      have hcv := conv_rep wr w1.heap.size n cb w.heap.size 5 xs HO.out (fun j hj => HXS.out j (by omega))
      obtain ⟨t, ht⟩ : ∃ t, t = bs (List.replicate n cb) := ⟨_, rfl⟩
      have htz : t.size = n := by rw [ht, bs_size, List.length_replicate]
      rw [← ht] at hcv
      have HI := Lib.hid hin
      have HT := Lib.hid ht
      have HZ := Lib.hid htz
      clear hin ht htz hown
      go_wp2_with fail
      refine (lex_any t _ (by rw [HZ.out]; omega)).mono ?_
      rintro e w3 ⟨v, toks, p, er, rfl, hlex, hown3, hb3⟩
      by_cases hbig : 4000 < n
      · have hl : lex t.data.toList = ([], 4000, 8) := by unfold lex; rw [if_pos (by rw [size_len, HZ.out]; exact hbig)]
        rw [hl] at hlex
        injection hlex with h3 h4
        injection h4 with h5 h6
        subst h3; subst h5; subst h6
        have hS := Sl.of_own hown3
        obtain ⟨A, c, rfl⟩ := hS.form
        clear hl hcv hown3 hS
        go_wp2
        go_ret
        exact ⟨rfl, hbel.trans (hb3.mono hbel.size)⟩
      · have hn4 : ¬ (4000 : Int) < (n : Int) := by omega
        have hown4 := own_below HO.out hb3
        have hcv3 := conv_rep w3 w1.heap.size n cb w.heap.size 5 xs hown4 (fun j hj => HXS.out j (by have := HI.out; omega))
        rw [← HT.out] at hcv3
        clear hcv
        go_wp2_with fail
        refine (rlex_any t _ (by rw [HZ.out]; omega)).mono ?_
        rintro e w4 ⟨v', toks', p', er', rfl, hlex', hown', hb4⟩
        rw [hlex] at hlex'
        injection hlex' with h3 h4'
        injection h4' with h5 h6
        subst h3; subst h5; subst h6
        have hlen : toks.length ≤ 140737488351232 := by
          have := lex_length t.data.toList
          rw [hlex, size_len, HZ.out] at this
          dsimp only at this
          omega
        have hS : Sl w4 w3.heap.size 3 v toks.length (tokCells toks) := (Sl.of_own hown3).below hb4
        have hS' := Sl.of_own hown'
        have HS := Lib.hid (rsame_any toks toks v v' w4.heap.size true w4 (hS.more hb4.size) hS' hlen hlen)
        clear hlex hown3 hown' hS hS' hcv3 hown4
        go_wp2_with fail
        refine HS.out.mono ?_
        rw [sameB_refl]
        rintro e w5 ⟨rfl, k5, rfl⟩
        go_wp2_with fail
        go_ret
        have g1 := hbel.size
        have g2 := hb3.size
        exact ⟨rfl, below_drewN ((hbel.trans (hb3.mono g1)).trans (hb4.mono (by omega))) k5⟩

theorem walk (q c : Int) (hq : (Lit.int .u8 q).wf = true) (hc : (Lit.int .u8 c).wf = true) (w : World) :
    Calls Try.prog 8 #[.int .u8 q, .int .u8 c] w fun e w' => e = .returned (.bool true) ∧ Below w.heap.size w w' := by
  have b1 := bounds_u8 hq
  have b2 := bounds_u8 hc
  obtain ⟨q, rfl⟩ := Int.eq_ofNat_of_zero_le b1.1
  obtain ⟨c, rfl⟩ := Int.eq_ofNat_of_zero_le b2.1
  have hcb : c = (UInt8.ofNat c).toNat := by
    rw [UInt8.toNat_ofNat']; omega
  rw [hcb]
  exact small q (UInt8.ofNat c) (by omega) w

theorem own : ownKnob Try.prog.godebug = none := by kernel_rfl

set_option maxRecDepth 100000 in
theorem lifted (os : Os) (started : os.Started) (H : Type) (enc : TypeId × Value → H) :
    ReturnsInHanded {} Try.checked os 8 .any (Rows.lexerLongSpec.pre6 enc Try.prog Try.f8 Rows.lexerLongRow.domain false) (Rows.lexerLongSpec.post enc Try.prog Try.f8 false true false false) := by
  refine returnsInHanded_of_change (C := Try.checked) own started (by kernel_rfl) Try.func8
    (ChangeSpec.witness6 (enc := enc) (C := Try.checked) false ⟨#[], #[.int .u8 0, .int .u8 0], []⟩ 8 (by kernel_rfl) (by kernel_rfl) (by kernel_rfl) (by kernel_rfl)) ?_
  intro W base args ds gs before hval0 hW hcnd _
  have hval : ∀ (j : Nat) t v, Try.f8.params[j]? = some t → args[j]? = some v → Value.okWide Try.prog W .any base t v := hval0
  have hW' := hW
  obtain ⟨p, q, hA0, hV, rfl, hfz, hnd⟩ := hW
  have hA : DataW.TrodAll enc Try.prog W 0 (fun _ => true) true Try.f8.params.toList args.toList ds p := hA0
  rw [Try.params8] at hA hval
  obtain ⟨v0, vs0, d0, ds0, p0, q0, hargs, rfl, rfl, h0, r0⟩ := trodAll_cons hA
  obtain ⟨v1, vs1, d1, ds1, p1, q1, rfl, rfl, rfl, h1, r1⟩ := trodAll_cons r0
  obtain ⟨rfl, rfl, rfl⟩ := trodAll_nil r1
  obtain rfl : args = #[v0, v1] := by cases args; simp_all
  obtain ⟨rfl, rfl⟩ := trodVars_none hV
  obtain ⟨a0, rfl, rfl, rfl, w0⟩ := open_int Try.underlying5 (hval 0 5 v0 rfl rfl) h0
  obtain ⟨a1, rfl, rfl, rfl, w1⟩ := open_int Try.underlying5 (hval 1 5 v1 rfl rfl) h1
  clear hA0 hval0
  simp only [List.append_nil] at hW'
  refine (walk a0 a1 w0 w1 W).mono fun e W' ⟨he, bel⟩ => ?_
  subst he
  exact ⟨_, rfl, _, _, _, [], _, [], hW', trodAll_mk1 (shut_bool Try.underlying4 _), (trodAll_cons_mk (shut_int Try.underlying5 w0) (trodAll_cons_mk (shut_int Try.underlying5 w1) trodAll_mk0)), rfl, bel.frame _, fun h => by cases h⟩

theorem over : Rows.lexerLongRow.holds Try.pinned (OpenSpec.ofChange Rows.lexerLongSpec) :=
  OpenClaim.holds_of_wide 8 Try.f8 rfl rfl rfl rfl rfl rfl rfl ⟨rfl, rfl, rfl, rfl, rfl⟩ rfl rfl rfl rfl rfl (by kernel_rfl) Try.func8 (by kernel_rfl)
    (of_decide_eq_true (by kernel_rfl)) (by unfold Func.isWrapper; first | (rw [if_pos (by decide +kernel)]; kernel_rfl) | (rw [if_neg (by decide +kernel)]; exact ⟨rfl, rfl⟩))
    (fun os started H enc _ => lifted os started H enc)

/-- THE STATEMENT -/
theorem proved : Rows.LexerLongSaid := over
end Go.Proofs.Ytnfbmclaenodaaa.lexerLong
