/-
  LexerTokens: for every input the law returns true: Tokens visits the tokens before the first error, and stops when the loop stops. No condition.
-/
import Derived.Test.YtnfbmclaenodaaaLxTk
import Derived.Test.YtnfbmclaenodaaaRows
import Derived.ProofKit
import Derived.Sort.BigQuietIn
import Derived.OpenShut
import Derived.ShutString
namespace Go.Proofs.Ytnfbmclaenodaaa.lexerTokens
open Go.ChangeShapes Go.WideShapes Go.ChangeAt Go.RowKit Go.Shelf Go.Proofs.Ytnfbmclaenodaaa Go.Proofs.Ytnfbmclaenodaaa.Lx
open Go.ChangeMaps (open_string shut_string)
set_option linter.unusedVariables false
set_option linter.unusedSimpArgs false
attribute [local go_sem] Oper.semAt_some

set_option maxHeartbeats 4000000 in
set_option maxRecDepth 100000 in
theorem small (s : ByteArray) (q : Nat) (hs : s.size ≤ 4100) (hq : q ≤ 255) (w : World) :
    Calls Try.prog 9 #[.string s, .int .u8 (q : Int)] w fun e w' => e = .returned (.bool true) ∧ Below w.heap.size w w' := by
  obtain ⟨i0, hi0, hz0, hz1, hz2⟩ := info_parts infoTok
  refine (callsIn_wide (n := 9)).1 ?_
  refine callsIn_of_wp_marks Try.func9 rfl trivial ?_ rfl
  simp only [Try.ntmps9, List.size_toArray, List.length_cons, List.length_nil, Nat.reduceAdd, Nat.reduceSub, Array.replicate_succ, Array.replicate_zero, List.push_toArray, List.append_toArray, List.nil_append, List.cons_append]
  gi_wp2_with (first
    | (refine ⟨trivial, ?_⟩; gi_at_call 12; refine (callsIn_wide.2 (awake_any _)).mono ?_; rintro e w1 ⟨rfl, hb1⟩)
    | (refine ⟨trivial, ?_⟩; gi_at_call 17; refine (tokens_in _ s _).mono ?_; rintro e w2 ⟨rfl, rfl⟩))
  have hz1' := hb1.size
  have hzw : (w.alloc (Obj.cells #[Value.int IntKind.u8 (q : Int)] 5)).heap.size = w.heap.size + 1 := by simp
  have hB1 : Below w.heap.size w w1 := ((Below.refl _ w).alloc (Nat.le_refl _) _).trans (hb1.mono (by omega))
  obtain ⟨W0, hW0⟩ : ∃ W0, (w1.alloc (Obj.cells #[Value.slice none 0 0] 23)).alloc (Obj.cells #[Value.string s] 9) = W0 := ⟨_, rfl⟩
  have hsz0 : W0.heap.size = w1.heap.size + 2 := by rw [← hW0]; simp
  have hBg0 : Boxed W0 w1.heap.size 23 (.slice none 0 0) := by rw [← hW0]; exact (Boxed.new w1 _ _).alloc _
  have hBs0 : Boxed W0 (w1.heap.size + 1) 9 (.string s) := by rw [← hW0]; have := Boxed.new (w1.alloc (Obj.cells #[Value.slice none 0 0] 23)) 9 (.string s); rw [World.size_alloc] at this; exact this
  have hBq0 : Boxed W0 w.heap.size 5 (.int .u8 (q : Int)) := by
    rw [← hW0]
    refine Boxed.alloc (Boxed.alloc ?_ _) _
    exact (hb1.block w.heap.size (by omega)).trans (Boxed.new w _ _)
  have hB0 : Below w.heap.size w W0 := by rw [← hW0]; exact (hB1.alloc (by omega) _).alloc (by simp; omega) _
  have hrow0 : gotRow w1.heap.size W0 = none := by unfold gotRow; rw [hBg0.cell]; rfl
  rw [hW0]
  refine wpIn_rangeFunc_ownH (n := 9) rfl (by decide) (gf := 26) (lb := #[.pointer (some ⟨w1.heap.size + 1, 0, none⟩)]) rfl trivial (enters_of Try.func26 (by kernel_rfl) rfl)
    (tokens_stops 8 (by decide) (w1.heap.size + 1) w1.heap.size s (by omega) W0 hBs0 (by omega) (by omega) hrow0) KpT.trans (kpT_b (by omega)) (Below.refl _ _) (fun _ => rfl)
    (fun pre W => (∃ v, Boxed W w1.heap.size 23 v ∧ W.ownsRow w.heap.size 30 3 v pre.length (tokCells pre) ∧ True) ∧ Boxed W w.heap.size 5 (.int .u8 (q : Int)) ∧ pre.length ≤ q ∧ Below w.heap.size w W)
    (fun c pre W => (∃ v, Boxed W w1.heap.size 23 v ∧ W.ownsRow w.heap.size 30 3 v pre.length (tokCells pre) ∧ True) ∧ Boxed W w.heap.size 5 (.int .u8 (q : Int)) ∧ (c = .exit 0 ∧ pre.length = q + 1) ∧ Below w.heap.size w W)
    (OwnFrom.and (Own.from (holdsRow_own _ _ _ _ _ List.length tokCells (fun _ _ => True)) _) (OwnFrom.and (Own.from (boxed_own _ _ (fun _ => .int .u8 (q : Int))) _) (OwnFrom.and (ownFrom_pure _ (fun pre : List Tok => pre.length ≤ q)) (ownFrom_below (Nat.le_refl _) (by omega)))))
    (fun c => OwnFrom.and (Own.from (holdsRow_own _ _ _ _ _ List.length tokCells (fun _ _ => True)) _) (OwnFrom.and (Own.from (boxed_own _ _ (fun _ => .int .u8 (q : Int))) _) (OwnFrom.and (ownFrom_pure _ (fun pre : List Tok => c = .exit 0 ∧ pre.length = q + 1)) (ownFrom_below (Nat.le_refl _) (by omega)))))
    ⟨⟨_, hBg0, World.ownsRow_nil _ _ _ _, trivial⟩, hBq0, Nat.zero_le _, hB0⟩
    (fun x a' W => ∃ Bx, W.heap[Bx]? = some (.cells #[.int .i64 (x.kind : Int), .string (bs x.text), .int .i64 (x.pos : Int)] 30 (0, 0)) ∧ a' = { tmps := #[.string s, .int .u8 (q : Int), undef, .pointer (some ⟨w.heap.size, 0, none⟩), .bool false, .pointer (some ⟨w1.heap.size, 0, none⟩), .pointer (some ⟨Bx, 0, none⟩), undef, undef, undef, .bool true, .bool false, .bool false, .string s, .int .i64 (s.size : Int), .bool (decide (4100 < (s.size : Int))), .bool (decide (4100 < (s.size : Int))), undef, .string s, .func (.func 26) #[] #[.pointer (some ⟨w1.heap.size + 1, 0, none⟩)], tokV x, undef, undef, undef, undef, undef, undef, undef, undef, undef, undef, undef, undef, undef, undef, undef, undef, undef, undef, undef, undef, undef, undef, undef, undef, undef, undef, undef, undef, undef, undef, undef], defers := [] })
    (fun x a' => fun _ X Y row ⟨Bx, hx, ha⟩ hg hr => by
      have := cells_own Bx _ _ (fun _ : Unit => a' = _) () X Y row ⟨hx, ha⟩ hg (fun r e => (hr r e).2)
      exact ⟨Bx, this.1, this.2⟩) ?assign ?body ?done ?stop
  case assign =>
    rintro l pre x W K ⟨⟨v, hv, hrow, _⟩, hQ, hlen, hbel⟩ hK
    gi_wp2
    refine hK _ _ ((KeepsOthers.alloc _ _).from _) (KpT.of_grown (World.grownBy_alloc W _ none) (by have := hv.lt; omega) (fun r e => by cases e)) ?_ ⟨W.heap.size, World.alloc_heap_new W _, rfl⟩
    exact ⟨⟨v, hv.alloc _, hrow.alloc _, trivial⟩, hQ.alloc _, hlen, hbel.alloc (by have := hbel.size; omega) _⟩
  case body =>
    rintro l pre x a' W hl ⟨r, hr⟩ ⟨⟨v, hv, hrow, _⟩, hQ, hlen, hbel⟩ ⟨Bx, hx, rfl⟩ hlt
    have hc := hv.cell
    have hf := hv.frozen
    have hq1 := hQ.cell
    have x0 : W.cell? ⟨Bx, 0, none⟩ = some (.int .i64 (x.kind : Int)) := by simp [World.cell?, hx]
    have x1 : W.cell? ⟨Bx, 1, none⟩ = some (.string (bs x.text)) := by simp [World.cell?, hx]
    have x2 : W.cell? ⟨Bx, 2, none⟩ = some (.int .i64 (x.pos : Int)) := by simp [World.cell?, hx]
    have hsz := hbel.size
    have hn3 : pre.length + 1 ≤ 300 := by omega
    have hqi : ∀ b, decide ((q : Int) < ((pre.length + 1 : Nat) : Int)) = b → decide ((q : Int) < (pre.length : Int) + 1) = b := fun b h => by rw [← h]; rfl
    by_cases hgo : pre.length = q
    · have hd : decide ((q : Int) < (pre.length : Int) + 1) = true := by simp; omega
      have hd2 : decide (q < pre.length + 1) = true := by simp; omega
      gi_wp2_with (gi_at_builtin; refine wpListIn_append_at _ rfl (.tmp 21) (.tmp 23) 23 rfl w.heap.size 30 i0 _ 3 32 Try.underlying23 hi0 hz0 hz1 hz2 rfl (by decide) _ _ _ rfl (hrow.alloc _) ⟨W.heap.size, 0, none⟩ 1 1 [.int .i64 (x.kind : Int), .string (bs x.text), .int .i64 (x.pos : Int)] rfl rfl (cells_new W _ _ _ (by simp)) (tokC_one x) (by unfold maxLen; omega) (by omega) (by simp; omega) (by decide) ?_; intro v' w2 hown' hgrow hwhere; obtain ⟨g', cap', rfl⟩ := ownsRow_succ hown'; obtain ⟨hv1, hv2, hr2, hk2, hb2⟩ := hv.appended (by decide) hrow hsz (by omega) hown' hgrow; have hc1 := hv1.cell; have hf1 := hv1.frozen; have hq2 := ((hQ.alloc _).kept hgrow (hQ.not_row (by decide) hrow)); have hq3 := hq2.cell; have hKp := KpT.appended hv hgrow hv2 hwhere)
      have hlx : (pre ++ [x]).length = pre.length + 1 := by simp
      simp only [hgo] at hv2 hr2 hk2 hb2
      rw [hgo] at hlx
      exact ⟨hk2.from _, ⟨_, hv2, by rw [hlx, tokCells_snoc]; exact hr2, trivial⟩, hq2.other (by omega) _, ⟨rfl, hlx⟩, hbel.trans hb2⟩
    · have hd : decide ((q : Int) < (pre.length : Int) + 1) = false := by simp; omega
      have hd2 : decide (q < pre.length + 1) = false := by simp; omega
      have hlx : (pre ++ [x]).length = pre.length + 1 := by simp
      gi_wp2_with (gi_at_builtin; refine wpListIn_append_at _ rfl (.tmp 21) (.tmp 23) 23 rfl w.heap.size 30 i0 _ 3 32 Try.underlying23 hi0 hz0 hz1 hz2 rfl (by decide) _ _ _ rfl (hrow.alloc _) ⟨W.heap.size, 0, none⟩ 1 1 [.int .i64 (x.kind : Int), .string (bs x.text), .int .i64 (x.pos : Int)] rfl rfl (cells_new W _ _ _ (by simp)) (tokC_one x) (by unfold maxLen; omega) (by omega) (by simp; omega) (by decide) ?_; intro v' w2 hown' hgrow hwhere; obtain ⟨g', cap', rfl⟩ := ownsRow_succ hown'; obtain ⟨hv1, hv2, hr2, hk2, hb2⟩ := hv.appended (by decide) hrow hsz (by omega) hown' hgrow; have hc1 := hv1.cell; have hf1 := hv1.frozen; have hq2 := ((hQ.alloc _).kept hgrow (hQ.not_row (by decide) hrow)); have hq3 := hq2.cell; have hKp := KpT.appended hv hgrow hv2 hwhere)
      exact ⟨hk2.from _, hKp, ⟨_, hv2, by rw [hlx, tokCells_snoc]; exact hr2, trivial⟩, hq2.other (by omega) _, by omega, hbel.trans hb2⟩
  case done =>
    rintro D ys W hD hys ⟨⟨v, hv, hrow, _⟩, hQ, hlen, hbel⟩ hDD
    have hc := hv.cell
    have hq1 := hQ.cell
    by_cases h4 : 4000 < s.size
    · have e : ys = [] := by rw [hys]; exact if_pos h4
      clear hys
      subst e
      obtain ⟨A, ca, rfl⟩ := (Sl.of_own hrow).form
      gi_wp2
      refine ⟨by simp, .inl ⟨_, _, rfl, run_takeDeferred hDD, ?_⟩⟩
      exact ⟨_, results_tmp rfl _ _ _, rfl, hbel.trans (belowK_b (w := w) (Nat.le_refl _) W D _ _ (by omega) hDD rfl rfl)⟩
    · have e : ys = (seen s).take (q + 1) := by rw [← hys]; exact (List.take_of_length_le (by omega)).symm
      clear hys
      obtain ⟨toks0, p0, er0, hbe⟩ : ∃ a b c, before s.data.toList = (a, b, c) := ⟨_, _, _, rfl⟩
      have HE := Lib.hid e
      have HB := Lib.hid hbe
      have hsz := hbel.size
      clear e hbe
      gi_wp2_with (refine ⟨trivial, ?_⟩; gi_at_call 18; refine (callsIn_wide.2 (rbefore_any s _ (by omega))).mono ?_; rintro e w3 ⟨v3, toks, p, er, rfl, hbef, hown3, hb3⟩; have hc3 := (hb3.cell (p := ⟨w1.heap.size, 0, none⟩) hv.lt).trans hc; have hq3 := (hb3.cell (p := ⟨w.heap.size, 0, none⟩) hQ.lt).trans hq1)
      have e2 : seen s = toks := by unfold seen; rw [if_neg h4, hbef]
      have hpt : ys = toks.take (q + 1) := by rw [← e2]; exact HE.out
      have hSa := (Sl.of_own hrow).belowM hb3 (Nat.le_refl _)
      have hSb := Sl.of_own hown3
      have hlt3 : toks.length ≤ 4100 := by have := before_length s.data.toList; rw [hbef, size_len] at this; exact Nat.le_trans this hs
      have hD3 : w3.heap[D]? = some (.deferred (some [])) := (hb3.block D (Array.getElem?_eq_some_iff.1 hDD).1).trans hDD
      have hb33 : Below w.heap.size w w3 := hbel.trans (hb3.mono hsz)
      have hDw : w.heap.size ≤ D := by omega
      obtain ⟨A3, c3, rfl⟩ := hSb.form
      have hc3c : toks.length ≤ c3 := by obtain ⟨_, _, e, h, _⟩ := hSb; injection e with _ _ e3; omega
      have hm9 : IntKind.i64.wrap ((q : Int) + 1) = (q : Int) + 1 := IntWalk.i64_in _ (by omega)
      have hm10 : IntKind.i64.wrap (q : Int) = (q : Int) := IntWalk.i64_in _ (by omega)
      have HS : ∀ m, ys = toks.take m → m ≤ toks.length → ∀ k, Calls Try.prog 15 #[v, .slice A3 m c3, .bool true] (w3.drewN k) fun e w' => e = .returned (.bool true) ∧ ∃ k, w' = w3.drewN k := by
        intro m hm hmle k
        have hlm : (toks.take m).length = m := by rw [List.length_take]; omega
        have h := rsame_any ys (toks.take m) v (.slice A3 m c3) w3.heap.size true (w3.drewN k) ((hSa.more hb3.size).drewN k) (by have := (hSb.take hmle).drewN k; rw [← tokCells_take] at this; rw [hlm]; exact this) (by rw [hm, hlm]; omega) (by rw [hlm]; omega)
        rw [← hm, sameB_refl] at h
        refine h.mono ?_
        rintro e w' ⟨rfl, k', rfl⟩
        exact ⟨rfl, k + k', by simp only [World.drewN_drewN]⟩
      have HPT := Lib.hid hpt
      by_cases hcmp : q + 1 < toks.length
      · have hq9 : (q : Int) + 1 < (toks.length : Int) := by omega
        have hm2 : (q : Int) + 1 ≤ (c3 : Int) := by omega
        have hm3 : (0 : Int) ≤ (q : Int) + 1 := by omega
        have hm4 : ((q : Int) + 1).toNat = q + 1 := by omega
        have hm6 : ¬ c3 = 0 := by omega
        have hm8 : q + 1 ≤ c3 := by omega
        have HS2 := Lib.hid (HS (q + 1) hpt (by omega))
        obtain ⟨b3, o3, rfl, hb3', hcc3⟩ := hSb.at_ (by omega)
        clear hcc3 HS hpt hbef hSa hSb hown3
        (refine wpIn_region_quiet_lit rfl (by kernel_rfl) (by kernel_rfl) ?_; (repeat (gi_big_quiet_step (fail))); refine Go.BigFrame.wpQuietIn_want (fun _ _ _ _ => trivial) rfl (fun K hK => ?_); gi_big_quiet_op; apply Exists.intro; refine ⟨fun _ => ?_, ?_⟩; exact callsIn_wide.2 (HS2.out _); refine hK _ ?_; clear hK K; (repeat (gi_big_quiet_step (fail))); refine wpQuietIn_nil ?_; rintro _ ⟨nq, rfl⟩)
        have hD4 : (w3.drewN nq).heap[D]? = some (.deferred (some [])) := hD3
        gi_wp2
        refine ⟨by simp, .inl ⟨_, _, rfl, run_takeDeferred hD4, ?_⟩⟩
        exact ⟨_, results_tmp rfl _ _ _, rfl, (below_drewN hb33 nq).trans (belowK_b (w := w) (Nat.le_refl _) (w3.drewN nq) D _ _ (by omega) hD4 rfl rfl)⟩
      · have hq9 : (toks.length : Int) ≤ (q : Int) + 1 := by omega
        have HS2 := Lib.hid (HS toks.length (by rw [hpt]; rw [List.take_of_length_le (by omega), List.take_of_length_le (Nat.le_refl _)]) (Nat.le_refl _))
        clear HS hpt hbef hSa hSb hown3
        (refine wpIn_region_quiet_lit rfl (by kernel_rfl) (by kernel_rfl) ?_; (repeat (gi_big_quiet_step (fail))); refine Go.BigFrame.wpQuietIn_want (fun _ _ _ _ => trivial) rfl (fun K hK => ?_); gi_big_quiet_op; apply Exists.intro; refine ⟨fun _ => ?_, ?_⟩; exact callsIn_wide.2 (HS2.out _); refine hK _ ?_; clear hK K; (repeat (gi_big_quiet_step (fail))); refine wpQuietIn_nil ?_; rintro _ ⟨nq, rfl⟩)
        have hD4 : (w3.drewN nq).heap[D]? = some (.deferred (some [])) := hD3
        gi_wp2
        refine ⟨by simp, .inl ⟨_, _, rfl, run_takeDeferred hD4, ?_⟩⟩
        exact ⟨_, results_tmp rfl _ _ _, rfl, (below_drewN hb33 nq).trans (belowK_b (w := w) (Nat.le_refl _) (w3.drewN nq) D _ _ (by omega) hD4 rfl rfl)⟩
  case stop =>
    rintro D c pre W hD hpre ⟨⟨v, hv, hrow, _⟩, hQ, ⟨rfl, hlen⟩, hbel⟩ hDD
    have hc := hv.cell
    have hq1 := hQ.cell
    by_cases h4 : 4000 < s.size
    · exfalso
      have e : seen s = [] := if_pos h4
      rw [e] at hpre
      have := hpre.length_le
      simp at this
      rw [this] at hlen; simp at hlen
    · have e : pre = (seen s).take (q + 1) := by rw [← hlen]; exact List.prefix_iff_eq_take.1 hpre
      clear hpre hlen
      obtain ⟨toks0, p0, er0, hbe⟩ : ∃ a b c, before s.data.toList = (a, b, c) := ⟨_, _, _, rfl⟩
      have HE := Lib.hid e
      have HB := Lib.hid hbe
      have hsz := hbel.size
      clear e hbe
      gi_wp2_with (refine ⟨trivial, ?_⟩; gi_at_call 18; refine (callsIn_wide.2 (rbefore_any s _ (by omega))).mono ?_; rintro e w3 ⟨v3, toks, p, er, rfl, hbef, hown3, hb3⟩; have hc3 := (hb3.cell (p := ⟨w1.heap.size, 0, none⟩) hv.lt).trans hc; have hq3 := (hb3.cell (p := ⟨w.heap.size, 0, none⟩) hQ.lt).trans hq1)
      have e2 : seen s = toks := by unfold seen; rw [if_neg h4, hbef]
      have hpt : pre = toks.take (q + 1) := by rw [← e2]; exact HE.out
      have hSa := (Sl.of_own hrow).belowM hb3 (Nat.le_refl _)
      have hSb := Sl.of_own hown3
      have hlt3 : toks.length ≤ 4100 := by have := before_length s.data.toList; rw [hbef, size_len] at this; exact Nat.le_trans this hs
      have hD3 : w3.heap[D]? = some (.deferred (some [])) := (hb3.block D (Array.getElem?_eq_some_iff.1 hDD).1).trans hDD
      have hb33 : Below w.heap.size w w3 := hbel.trans (hb3.mono hsz)
      have hDw : w.heap.size ≤ D := by omega
      obtain ⟨A3, c3, rfl⟩ := hSb.form
      have hc3c : toks.length ≤ c3 := by obtain ⟨_, _, e, h, _⟩ := hSb; injection e with _ _ e3; omega
      have hm9 : IntKind.i64.wrap ((q : Int) + 1) = (q : Int) + 1 := IntWalk.i64_in _ (by omega)
      have hm10 : IntKind.i64.wrap (q : Int) = (q : Int) := IntWalk.i64_in _ (by omega)
      have HS : ∀ m, pre = toks.take m → m ≤ toks.length → ∀ k, Calls Try.prog 15 #[v, .slice A3 m c3, .bool true] (w3.drewN k) fun e w' => e = .returned (.bool true) ∧ ∃ k, w' = w3.drewN k := by
        intro m hm hmle k
        have hlm : (toks.take m).length = m := by rw [List.length_take]; omega
        have h := rsame_any pre (toks.take m) v (.slice A3 m c3) w3.heap.size true (w3.drewN k) ((hSa.more hb3.size).drewN k) (by have := (hSb.take hmle).drewN k; rw [← tokCells_take] at this; rw [hlm]; exact this) (by rw [hm, hlm]; omega) (by rw [hlm]; omega)
        rw [← hm, sameB_refl] at h
        refine h.mono ?_
        rintro e w' ⟨rfl, k', rfl⟩
        exact ⟨rfl, k + k', by simp only [World.drewN_drewN]⟩
      have HPT := Lib.hid hpt
      by_cases hcmp : q + 1 < toks.length
      · have hq9 : (q : Int) + 1 < (toks.length : Int) := by omega
        have hm2 : (q : Int) + 1 ≤ (c3 : Int) := by omega
        have hm3 : (0 : Int) ≤ (q : Int) + 1 := by omega
        have hm4 : ((q : Int) + 1).toNat = q + 1 := by omega
        have hm6 : ¬ c3 = 0 := by omega
        have hm8 : q + 1 ≤ c3 := by omega
        have HS2 := Lib.hid (HS (q + 1) hpt (by omega))
        obtain ⟨b3, o3, rfl, hb3', hcc3⟩ := hSb.at_ (by omega)
        clear hcc3 HS hpt hbef hSa hSb hown3
        (refine wpIn_region_quiet_lit rfl (by kernel_rfl) (by kernel_rfl) ?_; (repeat (gi_big_quiet_step (fail))); refine Go.BigFrame.wpQuietIn_want (fun _ _ _ _ => trivial) rfl (fun K hK => ?_); gi_big_quiet_op; apply Exists.intro; refine ⟨fun _ => ?_, ?_⟩; exact callsIn_wide.2 (HS2.out _); refine hK _ ?_; clear hK K; (repeat (gi_big_quiet_step (fail))); refine wpQuietIn_nil ?_; rintro _ ⟨nq, rfl⟩)
        have hD4 : (w3.drewN nq).heap[D]? = some (.deferred (some [])) := hD3
        gi_wp2
        refine ⟨by simp, .inl ⟨_, _, rfl, run_takeDeferred hD4, ?_⟩⟩
        exact ⟨_, results_tmp rfl _ _ _, rfl, (below_drewN hb33 nq).trans (belowK_b (w := w) (Nat.le_refl _) (w3.drewN nq) D _ _ (by omega) hD4 rfl rfl)⟩
      · have hq9 : (toks.length : Int) ≤ (q : Int) + 1 := by omega
        have HS2 := Lib.hid (HS toks.length (by rw [hpt]; rw [List.take_of_length_le (by omega), List.take_of_length_le (Nat.le_refl _)]) (Nat.le_refl _))
        clear HS hpt hbef hSa hSb hown3
        (refine wpIn_region_quiet_lit rfl (by kernel_rfl) (by kernel_rfl) ?_; (repeat (gi_big_quiet_step (fail))); refine Go.BigFrame.wpQuietIn_want (fun _ _ _ _ => trivial) rfl (fun K hK => ?_); gi_big_quiet_op; apply Exists.intro; refine ⟨fun _ => ?_, ?_⟩; exact callsIn_wide.2 (HS2.out _); refine hK _ ?_; clear hK K; (repeat (gi_big_quiet_step (fail))); refine wpQuietIn_nil ?_; rintro _ ⟨nq, rfl⟩)
        have hD4 : (w3.drewN nq).heap[D]? = some (.deferred (some [])) := hD3
        gi_wp2
        refine ⟨by simp, .inl ⟨_, _, rfl, run_takeDeferred hD4, ?_⟩⟩
        exact ⟨_, results_tmp rfl _ _ _, rfl, (below_drewN hb33 nq).trans (belowK_b (w := w) (Nat.le_refl _) (w3.drewN nq) D _ _ (by omega) hD4 rfl rfl)⟩

set_option maxHeartbeats 4000000 in
set_option maxRecDepth 100000 in
theorem big (s : ByteArray) (q : Int) (hs : s.size ≤ maxLen) (h : 4100 < s.size) (w : World) :
    Calls Try.prog 9 #[.string s, .int .u8 q] w fun e w' => e = .returned (.bool true) ∧ Below w.heap.size w w' := by
  unfold maxLen at hs
  go_enter Try.func9, Try.ntmps9
  have hz : (w.alloc (Obj.cells #[Value.int IntKind.u8 q] 5)).heap.size = w.heap.size + 1 := by simp
  go_wp2_with fail
  refine (awake_any _).mono ?_
  rintro e w1 ⟨rfl, hb1⟩
  go_wp2_with fail
  refine (awake_any _).mono ?_
  rintro e w2 ⟨rfl, hb2⟩
  go_wp2_with fail
  go_ret
  exact ⟨rfl, ((Below.refl _ w).alloc (Nat.le_refl _) _).trans ((hb1.trans (hb2.mono hb1.size)).mono (by omega))⟩

theorem walk (s : ByteArray) (q : Int) (hs : s.size ≤ maxLen) (hq : (Lit.int .u8 q).wf = true) (w : World) :
    Calls Try.prog 9 #[.string s, .int .u8 q] w fun e w' => e = .returned (.bool true) ∧ Below w.heap.size w w' := by
  by_cases h : 4100 < s.size
  · exact big s q hs h w
  · have b1 := bounds_u8 hq
    obtain ⟨q, rfl⟩ := Int.eq_ofNat_of_zero_le b1.1
    exact small s q (by omega) (by omega) w

theorem own : ownKnob Try.prog.godebug = none := by kernel_rfl

set_option maxRecDepth 100000 in
theorem lifted (os : Os) (started : os.Started) (H : Type) (enc : TypeId × Value → H) :
    ReturnsInHanded {} Try.checked os 9 .any (Rows.lexerTokensSpec.pre6 enc Try.prog Try.f9 Rows.lexerTokensRow.domain false) (Rows.lexerTokensSpec.post enc Try.prog Try.f9 false true false false) := by
  refine returnsInHanded_of_change (C := Try.checked) own started (by kernel_rfl) Try.func9
    (ChangeSpec.witness6 (enc := enc) (C := Try.checked) false ⟨#[], #[.string ByteArray.empty, .int .u8 0], []⟩ 8 (by kernel_rfl) (by kernel_rfl) (by kernel_rfl) (by kernel_rfl)) ?_
  intro W base args ds gs before hval0 hW hcnd _
  have hval : ∀ (j : Nat) t v, Try.f9.params[j]? = some t → args[j]? = some v → Value.okWide Try.prog W .any base t v := hval0
  have hW' := hW
  obtain ⟨p, q, hA0, hV, rfl, hfz, hnd⟩ := hW
  have hA : DataW.TrodAll enc Try.prog W 0 (fun _ => true) true Try.f9.params.toList args.toList ds p := hA0
  rw [Try.params9] at hA hval
  obtain ⟨v0, vs0, d0, ds0, p0, q0, hargs, rfl, rfl, h0, r0⟩ := trodAll_cons hA
  obtain ⟨v1, vs1, d1, ds1, p1, q1, rfl, rfl, rfl, h1, r1⟩ := trodAll_cons r0
  obtain ⟨rfl, rfl, rfl⟩ := trodAll_nil r1
  obtain rfl : args = #[v0, v1] := by cases args; simp_all
  obtain ⟨rfl, rfl⟩ := trodVars_none hV
  obtain ⟨a0, rfl, rfl, rfl, w0⟩ := open_string Try.underlying9 (hval 0 9 v0 rfl rfl) h0
  obtain ⟨a1, rfl, rfl, rfl, w1⟩ := open_int Try.underlying5 (hval 1 5 v1 rfl rfl) h1
  clear hA0 hval0
  simp only [List.append_nil] at hW'
  refine (walk a0 a1 w0 w1 W).mono fun e W' ⟨he, bel⟩ => ?_
  subst he
  exact ⟨_, rfl, _, _, _, [], _, [], hW', trodAll_mk1 (shut_bool Try.underlying4 _), (trodAll_cons_mk (shut_string Try.underlying9 w0) (trodAll_cons_mk (shut_int Try.underlying5 w1) trodAll_mk0)), rfl, bel.frame _, fun h => by cases h⟩

theorem over : Rows.lexerTokensRow.holds Try.pinned (OpenSpec.ofChange Rows.lexerTokensSpec) :=
  OpenClaim.holds_of_wide 9 Try.f9 rfl rfl rfl rfl rfl rfl rfl ⟨rfl, rfl, rfl, rfl, rfl⟩ rfl rfl rfl rfl rfl (by kernel_rfl) Try.func9 (by kernel_rfl)
    (of_decide_eq_true (by kernel_rfl)) (by unfold Func.isWrapper; first | (rw [if_pos (by decide +kernel)]; kernel_rfl) | (rw [if_neg (by decide +kernel)]; exact ⟨rfl, rfl⟩))
    (fun os started H enc _ => lifted os started H enc)

/-- THE STATEMENT -/
theorem proved : Rows.LexerTokensSaid := over
end Go.Proofs.Ytnfbmclaenodaaa.lexerTokens
