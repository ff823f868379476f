/-
  ParserChecks: for every text the law returns true: what is parsed violates no limit, and there are no more nodes than tokens. No condition.
-/
import Derived.Test.YtkjbfomokdjbnaaGreatPbH
import Derived.Test.YtkjbfomokdjbnaaGreatRows
import Derived.ProofKit
import Derived.OpenShut
import Derived.ShutString
namespace Go.Proofs.YtkjbfomokdjbnaaGreat.parserChecks
open Go.ChangeShapes Go.WideShapes Go.ChangeAt Go.RowKit Go.Proofs.YtkjbfomokdjbnaaGreat Go.Proofs.YtkjbfomokdjbnaaGreat.Lx Go.Proofs.YtkjbfomokdjbnaaGreat.Pa Go.Proofs.YtkjbfomokdjbnaaGreat.Fm Go.Proofs.YtkjbfomokdjbnaaGreat.Dc
open Go.ChangeMaps (open_string shut_string)
set_option linter.unusedVariables false
set_option linter.unusedSimpArgs false
set_option maxRecDepth 100000 in
set_option maxHeartbeats 4000000 in
theorem big (s : ByteArray) (hs : s.size ≤ maxLen) (h : 1000 < s.size) (w : World) :
    Calls Tryz.prog 3 #[.string s] w fun e w' => e = .returned (.bool true) ∧ Below w.heap.size w w' := by
  go_enter Tryz.func3, Tryz.ntmps3
  go_wp2_with fail
  refine (awake_any _).mono ?_
  rintro e w1 ⟨rfl, hb1⟩
  have HB1 := Lib.hid hb1
  clear hb1
  go_wp2_with fail
  refine (awake_any _).mono ?_
  rintro e w2 ⟨rfl, hb2⟩
  have HB2 := Lib.hid (HB1.out.trans (hb2.mono HB1.out.size))
  clear hb2
  go_wp2
  go_ret
  exact ⟨rfl, HB2.out⟩
set_option maxRecDepth 100000 in
set_option maxHeartbeats 4000000 in
theorem bad (s : ByteArray) (h : s.size ≤ 1000) (p e : Nat) (he : e ≠ 0) (hP : ParseR (.iff false) fm s.data.toList none p e) (w : World) :
    Calls Tryz.prog 3 #[.string s] w fun e w' => e = .returned (.bool true) ∧ Below w.heap.size w w' := by
  have HP := Lib.hid (fun w' => Parse_walk s _ _ _ hP (by omega) w')
  have hene : ((e : Int) != 0) = true := by rw [bne_iff_ne]; omega
  clear hP
  go_enter Tryz.func3, Tryz.ntmps3
  go_wp2_with fail
  refine (awake_any _).mono ?_
  rintro e w1 ⟨rfl, hb1⟩
  have HB1 := Lib.hid hb1
  clear hb1
  go_wp2_with fail
  refine (HP.out _).mono ?_
  rintro e w2 ⟨rfl, hb2⟩
  have HB2 := Lib.hid (HB1.out.trans (hb2.mono HB1.out.size))
  clear hb2
  go_wp2
  go_ret
  exact ⟨rfl, HB2.out⟩
theorem Owned.form {w : World} {B n : Nat} {T : TypeId} {v : Value} {xs : List Value} (h : w.ownsRow B T 3 v n xs) : ∃ A c, v = .slice A n c := by obtain ⟨A, c, rfl⟩ := (Sl.of_own h).form; exact ⟨A, c, rfl⟩
set_option maxRecDepth 100000 in
set_option maxHeartbeats 4000000 in
theorem good (s : ByteArray) (h : s.size ≤ 1000) (f : Fo) (p : Nat) (hP : ParseR (.iff false) fm s.data.toList (some (.fo f)) p 0) (w : World) :
    Calls Tryz.prog 3 #[.string s] w fun e w' => e = .returned (.bool true) ∧ Below w.heap.size w w' := by
  obtain ⟨hck, hnn, hlen, hl0⟩ := parsed_any hP
  obtain ⟨-, -, -, -, -, -, -, -, hp0⟩ := parse_ok hP
  subst hp0
  have HP := Lib.hid (fun w' => Parse_walk s _ _ _ hP (by omega) w')
  have HL := Lib.hid (fun w' => lex_any s w' (by omega))
  have hsz := fsz_fnn f
  have hfl := free_len f (fun _ => 0) []
  have hck2 := fun (v : Value) (w' : World) (hT : FoAt w' (fun k => k < w'.heap.size) f v) (hs : SmF f) => check_any f v _ w' (fun b h => h) hT hs (by omega) (by show (walkS freeStep f (fun _ => 0) []).length ≤ _; simp at hfl; omega) (by omega) (fun nm h => names_fo f v hT nm (in_mF f nm (.inr h))) (fun nm h => names_fo f v hT nm (in_mF f nm (.inl (by rcases free_in f _ _ _ h with h | h; cases h; exact h))))
  have hnd := fun (v : Value) (w' : World) (hT : FoAt w' (fun k => k < w'.heap.size) f v) => nodes_any f v _ w' (fun b h => h) hT (by omega)
  have HCK := Lib.hid hck2
  have HND := Lib.hid hnd
  have HNN := Lib.hid hnn
  have HL0 := Lib.hid hl0
  have HLE := Lib.hid hlen
  clear hP hnn hsz hfl hck2 hnd hl0 hlen
  obtain ⟨K, hK⟩ : ∃ K, K = checkF f := ⟨_, rfl⟩
  obtain ⟨M, hM⟩ : ∃ M, M = fnn f := ⟨_, rfl⟩
  rw [← hK] at HCK hck
  rw [← hM] at HND HNN
  clear hK hM
  go_enter Tryz.func3, Tryz.ntmps3
  go_wp2_with fail
  refine (awake_any _).mono ?_
  rintro e w1 ⟨rfl, hb1⟩
  have HB1 := Lib.hid hb1
  clear hb1
  go_wp2_with fail
  refine (HP.out _).mono ?_
  rintro e w2 ⟨⟨u, z, rfl, hV⟩, hb2⟩
  have HB2 := Lib.hid (HB1.out.trans (hb2.mono HB1.out.size))
  have HF2 := Lib.hid (show FoAt w2 (fun k => k < w2.heap.size) f (.iface u z) from hV.1)
  have HSF := Lib.hid (show SmF f from hV.2.2)
  clear hb2 hV
  go_wp2_with fail
  refine (HL.out _).mono ?_
  rintro e w3 ⟨v, toks, p', er', rfl, hlex, hown, hb3⟩
  have her : er' = 0 := by have := HL0.out; rw [hlex] at this; exact this
  have hlt : (toks.length : Nat) = (lex s.data.toList).1.length := by rw [hlex]
  have hMl : M ≤ toks.length := by rw [hlt]; exact HNN.out
  have hTl : toks.length ≤ 4000 := by rw [hlt]; exact HLE.out
  obtain ⟨A, c, rfl⟩ := Owned.form hown
  obtain ⟨n, hn⟩ : ∃ n, n = toks.length := ⟨_, rfl⟩
  rw [← hn] at hMl hTl ⊢
  subst her
  have HB3 := Lib.hid (HB2.out.trans (hb3.mono HB2.out.size))
  have HF3 := Lib.hid (FoAt.up HF2.out hb3)
  clear hlex hown hb3 hlt hn
  have HC3 := Lib.hid (HCK.out _ w3 HF3.out HSF.out)
  go_wp2_with fail
  refine HC3.out.mono ?_
  rintro e w4 ⟨rfl, hb4⟩
  have HB4 := Lib.hid (HB3.out.trans (hb4.mono HB3.out.size))
  have HN4 := Lib.hid (HND.out _ w4 (FoAt.up HF3.out hb4))
  clear hb4
  have hMi : (M : Int) ≤ (n : Int) := by omega
  rcases hck with rfl | rfl
  · go_wp2_with fail
    refine HN4.out.mono ?_
    rintro e w5 ⟨rfl, hb5⟩
    have HB5 := Lib.hid (HB4.out.trans (hb5.mono HB4.out.size))
    clear hb5
    go_wp2
    go_ret
    exact ⟨rfl, HB5.out⟩
  · go_wp2_with fail
    refine HN4.out.mono ?_
    rintro e w5 ⟨rfl, hb5⟩
    have HB5 := Lib.hid (HB4.out.trans (hb5.mono HB4.out.size))
    clear hb5
    go_wp2
    go_ret
    exact ⟨rfl, HB5.out⟩
theorem walk (s : ByteArray) (hs : s.size ≤ maxLen) (w : World) :
    Calls Tryz.prog 3 #[.string s] w fun e w' => e = .returned (.bool true) ∧ Below w.heap.size w w' := by
  by_cases h : 1000 < s.size
  · exact big s hs h w
  · obtain ⟨r, p, e, hP⟩ := parse_ends (.iff false) (by simp) fm s.data.toList
    by_cases he : e = 0
    · subst he
      cases r with
      | none => exact (no_none hP).elim
      | some x =>
        obtain ⟨f, -, -, rfl, -⟩ := parse_ok hP
        exact good s (by omega) f p hP w
    · obtain rfl : r = none := parse_none hP he
      exact bad s (by omega) p e he hP w

theorem own : ownKnob Tryz.prog.godebug = none := by kernel_rfl

set_option maxRecDepth 100000 in
theorem lifted (os : Os) (started : os.Started) (H : Type) (enc : TypeId × Value → H) :
    ReturnsInHanded {} Tryz.checked os 3 .any (Rows.parserChecksSpec.pre6 enc Tryz.prog Tryz.f3 Rows.parserChecksRow.domain false) (Rows.parserChecksSpec.post enc Tryz.prog Tryz.f3 false true false false) := by
  refine returnsInHanded_of_change (C := Tryz.checked) own started (by kernel_rfl) Tryz.func3
    (ChangeSpec.witness6 (enc := enc) (C := Tryz.checked) false ⟨#[], #[.string ByteArray.empty], []⟩ 8 (by kernel_rfl) (by kernel_rfl) (by kernel_rfl) (by kernel_rfl)) ?_
  intro W base args ds gs before hval0 hW hcnd _
  have hval : ∀ (j : Nat) t v, Tryz.f3.params[j]? = some t → args[j]? = some v → Value.okWide Tryz.prog W .any base t v := hval0
  have hW' := hW
  obtain ⟨p, q, hA0, hV, rfl, hfz, hnd⟩ := hW
  have hA : DataW.TrodAll enc Tryz.prog W 0 (fun _ => true) true Tryz.f3.params.toList args.toList ds p := hA0
  rw [Tryz.params3] at hA hval
  obtain ⟨v0, vs0, d0, ds0, p0, q0, hargs, rfl, rfl, h0, r0⟩ := trodAll_cons hA
  obtain ⟨rfl, rfl, rfl⟩ := trodAll_nil r0
  obtain rfl : args = #[v0] := by cases args; simp_all
  obtain ⟨rfl, rfl⟩ := trodVars_none hV
  obtain ⟨a0, rfl, rfl, rfl, w0⟩ := open_string Tryz.underlying9 (hval 0 9 v0 rfl rfl) h0
  clear hA0 hval0
  simp only [List.append_nil] at hW'
  refine (walk a0 w0 W ).mono fun e W' ⟨he, bel⟩ => ?_
  subst he
  exact ⟨_, rfl, _, _, _, [], _, [], hW', trodAll_mk1 (shut_bool Tryz.underlying4 _), (trodAll_cons_mk (shut_string Tryz.underlying9 w0) trodAll_mk0), rfl, bel.frame _, fun h => by cases h⟩

theorem over : Rows.parserChecksRow.holds Tryz.pinned (OpenSpec.ofChange Rows.parserChecksSpec) :=
  OpenClaim.holds_of_wide 3 Tryz.f3 rfl rfl rfl rfl rfl rfl rfl ⟨rfl, rfl, rfl, rfl, rfl⟩ rfl rfl rfl rfl rfl (by kernel_rfl) Tryz.func3 (by kernel_rfl)
    (of_decide_eq_true (by kernel_rfl)) (by unfold Func.isWrapper; first | (rw [if_pos (by decide +kernel)]; kernel_rfl) | (rw [if_neg (by decide +kernel)]; exact ⟨rfl, rfl⟩))
    (fun os started H enc _ => lifted os started H enc)

/-- THE STATEMENT -/
theorem proved : Rows.ParserChecksSaid := over
end Go.Proofs.YtkjbfomokdjbnaaGreat.parserChecks
