/-
  Walks of the lexer's reference: Before, Lex, Same.
-/
import Derived.Test.YtnfbmclaenodaaaLxS
namespace Go.Proofs.Ytnfbmclaenodaaa
open Go.RowKit Lx
set_option linter.unusedSimpArgs false
set_option linter.unusedVariables false

/-- what Before leaves -/
def BefPost (s : ByteArray) (w : World) (e : Ending) (w' : World) : Prop :=
  ∃ v toks p er, e = .returned (.tuple #[v, .int .i64 ((p : Nat) : Int), .int .i64 ((er : Nat) : Int)]) ∧ before s.data.toList = (toks, p, er) ∧ w'.ownsRow w.heap.size 30 3 v toks.length (tokCells toks) ∧ Below w.heap.size w w'
theorem befPost_mk (s : ByteArray) (w w' : World) (v : Value) (toks : List Tok) (p er : Nat) (hb : before s.data.toList = (toks, p, er)) (hown : w'.ownsRow w.heap.size 30 3 v toks.length (tokCells toks)) (hbel : Below w.heap.size w w') :
    BefPost s w (.returned (.tuple #[v, .int .i64 ((p : Nat) : Int), .int .i64 ((er : Nat) : Int)])) w' := ⟨v, toks, p, er, rfl, hb, hown, hbel⟩

/-- the rest at i, which may be blank, lexed, behind the tokens that have been gathered -/
def BefRel (s : ByteArray) (i : Nat) (toks : List Tok) : Prop :=
  before s.data.toList = (toks ++ (lexBl i (s.data.toList.drop i)).1, (lexBl i (s.data.toList.drop i)).2)
theorem befRel_start (s : ByteArray) : BefRel s 0 [] := by
  unfold BefRel; rw [List.drop_zero, before_bl, List.nil_append]
theorem befRel_blank (s : ByteArray) (i : Nat) (toks : List Tok) (hi : i < s.size) (h : bl s[i] = true) (hr : BefRel s i toks) : BefRel s (i + 1) toks := by
  unfold BefRel at *; rw [hr, drop_cons s i hi, lexBl_blank _ _ _ h]
theorem befRel_ok (s : ByteArray) (i : Nat) (toks : List Tok) (hi : i < s.size) (hb : bl s[i] = false) (kd n : Nat) (h : next (s.data.toList.drop i) = (kd, n, 0)) (hr : BefRel s i toks) :
    BefRel s (i + n) (toks ++ [⟨kd, (s.data.toList.drop i).take n, i⟩]) := by
  unfold BefRel at *
  have hne : s.data.toList.drop i ≠ [] := by rw [drop_cons s i hi]; simp
  have e : lexBl i (s.data.toList.drop i) = lexA i (s.data.toList.drop i) := by rw [drop_cons s i hi]; exact lexBl_non _ _ _ hb
  rw [hr, e, lexA_ok' i _ hne (by rw [h]), h, List.drop_drop, List.append_assoc]
  rfl
theorem befRel_err (s : ByteArray) (i : Nat) (toks : List Tok) (hi : i < s.size) (hb : bl s[i] = false) (e : Nat) (he : e ≠ 0) (h : next (s.data.toList.drop i) = (0, 0, e)) (hr : BefRel s i toks) :
    before s.data.toList = (toks, i, e) := by
  unfold BefRel at *
  have hne : s.data.toList.drop i ≠ [] := by rw [drop_cons s i hi]; simp
  have e' : lexBl i (s.data.toList.drop i) = lexA i (s.data.toList.drop i) := by rw [drop_cons s i hi]; exact lexBl_non _ _ _ hb
  rw [hr, e', lexA_err i _ hne (by rw [h]; exact he), h, List.append_nil]
theorem befRel_end (s : ByteArray) (i : Nat) (toks : List Tok) (hi : s.size ≤ i) (hr : BefRel s i toks) : before s.data.toList = (toks, 0, 0) := by
  unfold BefRel at *
  have e : s.data.toList.drop i = [] := List.drop_eq_nil_of_le (by rw [size_len]; exact hi)
  rw [hr, e, lexBl_nil, List.append_nil]

theorem kindR_pos_of (r : Bytes) (h : tokLen r ≠ 0) : kindR (r.take (tokLen r)) ≠ 0 :=
  (kindR_take r (tokLen r) (by omega) (tokLen_le r)).2 (Nat.le_refl _)

set_option maxHeartbeats 4000000 in
theorem rbefore_any (s : ByteArray) (w : World) (hs : s.size ≤ 1000000) :
    Calls Try.prog 18 #[.string s] w (BefPost s w) := by
  obtain ⟨i0, hi0, hz0, hz1, hz2⟩ := info_parts infoTok
  go_enter Try.func18, Try.ntmps18
  go_wp2
  go_loopw [5, 6] (fun v a wr => ∃ (i : Nat) (toks : List Tok), i ≤ s.size ∧ a = .int .i64 i ∧ wr.ownsRow w.heap.size 30 3 v toks.length (tokCells toks) ∧ Below w.heap.size w wr ∧ toks.length ≤ i ∧ Hid (BefRel s i toks)) (fun _ a _ => s.size - (intOf a).toNat)
  case atStart => exact ⟨0, [], Nat.zero_le _, rfl, World.ownsRow_nil _ _ _ _, Below.refl _ _, Nat.zero_le _, befRel_start s⟩
  case round =>
    obtain ⟨i, toks, hi, rfl, hown, hbel, hlen, hrel⟩ := hrel
    by_cases hlt : i < s.size
    · by_cases hb : bl s[i] = true
      · have Hb := Lib.hid hb
        have HN := Lib.hid (befRel_blank s i toks hlt hb hrel.out)
        clear hb
        go_wp2_with (go_at_call 16; refine (rblank_is _ _ true Hb.out).mono ?_; rintro e w' ⟨rfl, rfl⟩)
        go_roundw
        case rel => exact ⟨i + 1, toks, by omega, by go_num, hown, hbel, by omega, HN⟩
        case measure => simp [intOf]; omega
      · have hb' : bl s[i] = false := by simpa using hb
        have Hb := Lib.hid hb'
        have hne := next_ref s[i] (s.data.toList.drop (i + 1))
        rw [← drop_cons s i hlt] at hne
        obtain ⟨r, hr⟩ : ∃ r, r = s.data.toList.drop i := ⟨_, rfl⟩
        obtain ⟨n, hn⟩ : ∃ n, n = tokLen r := ⟨_, rfl⟩
        have hrl : r.length = s.size - i := by rw [hr, List.length_drop, size_len]
        have hnle : i + n ≤ s.size := by have h1 := tokLen_le r; omega
        have hx : (s.extract i s.size).data.toList = r := by
          rw [hr, extract_drop]; exact List.take_of_length_le (by rw [List.length_drop, size_len]; omega)
        have long_is : ∀ W, Calls Try.prog 27 #[.string (s.extract i s.size)] W fun e w' => e = .returned (.int .i64 (n : Int)) ∧ Below W.heap.size W w' := by
          intro W
          have := longest_any (s.extract i s.size) W (by rw [← size_len, hx, hr, List.length_drop, size_len]; omega)
          rwa [hx, ← hn] at this
        have LI := Lib.hid long_is
        clear long_is hx hb
        by_cases h0 : n = 0
        · have h0' : ((n : Int) == 0) = true := by simp; omega
          have HE := Lib.hid (befRel_err s i toks hlt hb' 6 (by omega) (by rw [hne, ← hr, ← hn, if_pos h0]) hrel.out)
          clear hb' hne hr hn h0
          go_wp2_with (first | (go_at_call 16; refine (rblank_is _ _ false Hb.out).mono ?_; rintro e w' ⟨rfl, rfl⟩) | (go_at_call 27; refine (LI.out _).mono ?_; rintro e w1 ⟨rfl, hb1⟩))
          go_ret3
          exact befPost_mk s w _ _ toks i 6 HE.out (own_below hown hb1) (hbel.trans (hb1.mono hbel.size))
        · have h0' : ((n : Int) == 0) = false := by simp; omega
          obtain ⟨tx, htx⟩ : ∃ tx, tx = s.extract i (i + n) := ⟨_, rfl⟩
          have htl : tx.data.toList = r.take n := by rw [htx, hr, extract_drop, Nat.add_sub_cancel_left]
          have htsz : tx.size = n := by rw [← size_len, htl, hr, List.length_take, List.length_drop, size_len]; omega
          obtain ⟨q, hq⟩ : ∃ q, q = wrongR (r.take n) := ⟨_, rfl⟩
          obtain ⟨kd, hkd⟩ : ∃ kd, kd = kindR (r.take n) := ⟨_, rfl⟩
          have wrong_is : ∀ W, Calls Try.prog 28 #[.string (s.extract i (i + n))] W fun e w' => e = .returned (.int .i64 (q : Int)) ∧ Below W.heap.size W w' := by
            intro W; have := wrong_any tx W (by omega); rwa [htl, ← hq, htx] at this
          have kind_is : ∀ W, Calls Try.prog 29 #[.string (s.extract i (i + n))] W fun e w' => e = .returned (.int .i64 (kd : Int)) ∧ Below W.heap.size W w' := by
            intro W; have := kind_any tx W (by omega); rwa [htl, ← hkd, htx] at this
          have WI := Lib.hid wrong_is
          have KI := Lib.hid kind_is
          clear wrong_is kind_is
          by_cases hq0 : q = 0
          · have hq' : ((q : Int) != 0) = false := by simp; omega
            have HN := Lib.hid (befRel_ok s i toks hlt hb' kd n (by rw [hne, ← hr, ← hn, if_neg h0, ← hq, if_neg (by omega), ← hkd]) hrel.out)
            have HT : Hid (tokC ⟨kd, (s.data.toList.drop i).take n, i⟩ = [.int .i64 kd, .string (s.extract i (i + n)), .int .i64 i]) := by
              unfold tokC; dsimp only; rw [← hr, ← htl, ← htx]; exact congrArg (fun t => [Value.int .i64 kd, .string t, .int .i64 i]) (eq_bs rfl).symm
            have hn0 : 0 < n := by omega
            clear hb' hne hr hn h0 htx htl htsz hq hkd hq0
            have hown2 : ∀ (w1 w2 w3 : World), Below wr.heap.size wr w1 → Below w1.heap.size w1 w2 → Below w2.heap.size w2 w3 → ∀ o, (w3.alloc o).ownsRow w.heap.size 30 3 _ toks.length (tokCells toks) :=
              fun w1 w2 w3 h1 h2 h3 o => (own_below (own_below (own_below hown h1) h2) h3).alloc o
            go_wp2_with (first
              | (go_at_call 16; refine (rblank_is _ _ false Hb.out).mono ?_; rintro e w' ⟨rfl, rfl⟩)
              | (go_at_call 27; refine (LI.out _).mono ?_; rintro e w1 ⟨rfl, hb1⟩)
              | (go_at_call 28; refine (WI.out _).mono ?_; rintro e w2 ⟨rfl, hb2⟩)
              | (go_at_call 29; refine (KI.out _).mono ?_; rintro e w3 ⟨rfl, hb3⟩)
              | (at_builtin; refine wpList_append_own _ rfl (.tmp 41) (.tmp 47) 23 rfl w.heap.size 30 i0 _ 3 32 Try.underlying23 hi0 hz0 hz1 hz2 rfl (by decide) _ _ _ rfl (hown2 _ _ _ hb1 hb2 hb3 _) ⟨w3.heap.size, 0, none⟩ 1 1 [.int .i64 kd, .string (s.extract i (i + n)), .int .i64 i] rfl rfl ?c1 ?c2 ?c3 ?c4 ?c5 ?_; rotate_right; intro v2 w4 hown3 hg2 _))
            case c1 => exact cells_new w3 _ _ _ rfl
            case c2 => intro u hu; simp only [List.mem_cons, List.not_mem_nil, or_false] at hu; rcases hu with rfl | rfl | rfl <;> rfl
            case c3 => unfold maxLen; omega
            case c4 => omega
            case c5 => have := hbel.size; have := hb1.size; have := hb2.size; have := hb3.size; simp; omega
            go_roundw
            case rel =>
              refine ⟨i + n, toks ++ [⟨kd, (s.data.toList.drop i).take n, i⟩], by omega, by go_num, ?_, ?_, by simp only [List.length_append, List.length_cons, List.length_nil]; omega, HN⟩
              · rw [tokCells_snoc, List.length_append, HT.out]
                exact hown3
              · have e1 := hbel.size
                have e2 := hb1.size
                have e3 := hb2.size
                have e4 := hb3.size
                exact ((((hbel.trans (hb1.mono e1)).trans (hb2.mono (by omega))).trans (hb3.mono (by omega))).alloc (by omega) _).grown hg2 (by simp; omega) (own_row_ge hown)
            case measure => simp [intOf]; omega
          · have hq' : ((q : Int) != 0) = true := by simp; omega
            have HE := Lib.hid (befRel_err s i toks hlt hb' q hq0 (by rw [hne, ← hr, ← hn, if_neg h0, ← hq, if_pos hq0]) hrel.out)
            clear hb' hne hr hn h0 htx htl htsz hq hkd hq0
            go_wp2_with (first
              | (go_at_call 16; refine (rblank_is _ _ false Hb.out).mono ?_; rintro e w' ⟨rfl, rfl⟩)
              | (go_at_call 27; refine (LI.out _).mono ?_; rintro e w1 ⟨rfl, hb1⟩)
              | (go_at_call 28; refine (WI.out _).mono ?_; rintro e w2 ⟨rfl, hb2⟩))
            go_ret3
            exact befPost_mk s w _ _ toks i q HE.out (own_below (own_below hown hb1) hb2) ((hbel.trans (hb1.mono hbel.size)).trans (hb2.mono (Nat.le_trans hbel.size hb1.size)))
    · have HB := Lib.hid (befRel_end s i toks (by omega) hrel.out)
      go_wp2
      go_ret3
      exact befPost_mk s w _ _ toks 0 0 HB.out hown hbel

set_option maxHeartbeats 1000000 in
theorem rlex_any (s : ByteArray) (w : World) (hs : s.size ≤ 1000000) :
    Calls Try.prog 14 #[.string s] w (LexPost s w) := by
  by_cases h4 : 4000 < s.size
  · have H := Lib.hid (lexPost_long s w h4)
    go_enter Try.func14, Try.ntmps14
    go_wp2
    go_ret3
    exact H.out
  · have hs4 : s.size ≤ 4000 := by omega
    go_enter Try.func14, Try.ntmps14
    go_wp2_with fail
    refine (rbefore_any s _ hs).mono ?_
    rintro e w1 ⟨v, toks, p, er, rfl, hbef, hown, hbel⟩
    have HB := Lib.hid hbef
    clear hbef
    by_cases he : er = 0
    · have he' : ((er : Int) != 0) = false := by simp; omega
      have HE := Lib.hid he
      clear he
      go_wp2
      go_ret3
      have e0 : p = 0 ∧ er = 0 := by
        refine ⟨?_, HE.out⟩
        have h1 := HB.out
        rw [HE.out, before_bl] at h1
        have h2 : ∀ (p : Nat) (r : Bytes), (lexBl p r).2.2 = 0 → (lexBl p r).2.1 = 0 := by
          refine lexBl_ind (fun _ _ => rfl) (fun p c r hb ih => ?_) (fun p c r hb hn h => ?_) (fun p c r hb hn ih => ?_)
          · rw [lexBl_blank _ _ _ hb]; exact ih
          · rw [lexBl_non _ _ _ hb, lexA_err _ _ (by simp) hn] at h; exact absurd h hn
          · rw [lexBl_non _ _ _ hb, lexA_ok' _ _ (by simp) hn]; exact ih
        have h3 := h2 0 s.data.toList (by rw [h1])
        rw [h1] at h3; exact h3
      rw [e0.1, e0.2]
      refine lexPost_ok s w _ hs4 _ toks ?_ hown hbel
      rw [HB.out, e0.1, e0.2]
    · have he' : ((er : Int) != 0) = true := by simp; omega
      have HE := Lib.hid he
      clear he
      go_wp2
      go_ret3
      exact lexPost_err s w _ hs4 p er toks HB.out HE.out hbel

/-! ### Same -/
def tokEq (at_ : Bool) (x y : Tok) : Bool := x.kind == y.kind && x.text == y.text && (!at_ || x.pos == y.pos)
def sameB (a b : List Tok) (at_ : Bool) : Bool := a.length == b.length && (a.zip b).all (fun p => tokEq at_ p.1 p.2)
theorem sameB_len (a b : List Tok) (at_ : Bool) (h : a.length ≠ b.length) : sameB a b at_ = false := by unfold sameB; rw [beq_eq_false_iff_ne.2 h]; rfl
theorem sameB_no (a b : List Tok) (at_ : Bool) (i : Nat) (ha : i < a.length) (hb : i < b.length) (h : tokEq at_ a[i] b[i] = false) : sameB a b at_ = false := by
  unfold sameB
  have : (a.zip b).all (fun p => tokEq at_ p.1 p.2) = false := by
    rw [List.all_eq_false]
    refine ⟨(a[i], b[i]), ?_, by rw [h]; decide⟩
    rw [List.mem_iff_getElem]
    exact ⟨i, by rw [List.length_zip]; omega, by rw [List.getElem_zip]⟩
  rw [this, Bool.and_false]
theorem sameB_yes (a b : List Tok) (at_ : Bool) (h0 : a.length = b.length) (h : ∀ i (ha : i < a.length) (hb : i < b.length), tokEq at_ a[i] b[i] = true) : sameB a b at_ = true := by
  unfold sameB
  rw [beq_iff_eq.2 h0, Bool.true_and, List.all_eq_true]
  intro p hp
  obtain ⟨i, hi, rfl⟩ := List.getElem_of_mem hp
  rw [List.getElem_zip]
  rw [List.length_zip] at hi
  exact h i (by omega) (by omega)
theorem sameB_iff (a b : List Tok) (at_ : Bool) : sameB a b at_ = true ↔ a.length = b.length ∧ ∀ i (ha : i < a.length) (hb : i < b.length), tokEq at_ a[i] b[i] = true := by
  constructor
  · intro h
    by_cases h0 : a.length = b.length
    · refine ⟨h0, fun i ha hb => ?_⟩
      by_cases ht : tokEq at_ a[i] b[i] = true
      · exact ht
      · rw [sameB_no a b at_ i ha hb (by simpa using ht)] at h; cases h
    · rw [sameB_len a b at_ h0] at h; cases h
  · intro ⟨h0, h⟩; exact sameB_yes a b at_ h0 h
theorem sameB_refl (a : List Tok) (at_ : Bool) : sameB a a at_ = true :=
  sameB_yes a a at_ rfl (fun i _ _ => by unfold tokEq; cases at_ <;> simp)

theorem tokCells_get (l : List Tok) (i : Nat) (hi : i < l.length) : (tokCells l)[i * 3]? = some (.int .i64 l[i].kind) ∧ (tokCells l)[i * 3 + 1]? = some (.string (bs l[i].text)) ∧ (tokCells l)[i * 3 + 2]? = some (.int .i64 l[i].pos) := by
  induction l generalizing i with
  | nil => simp at hi
  | cons t l ih =>
    have e : tokCells (t :: l) = tokC t ++ tokCells l := by simp [tokCells]
    rw [e]
    match i with
    | 0 => simp [tokC]
    | i + 1 =>
      have := ih i (by simpa using hi)
      have h3 : (tokC t).length = 3 := rfl
      have e1 : (i + 1) * 3 = 3 + i * 3 := by omega
      rw [List.getElem?_append_right (by omega), List.getElem?_append_right (by omega), List.getElem?_append_right (by omega), h3]
      have e2 : (i + 1) * 3 - 3 = i * 3 := by omega
      have e3 : (i + 1) * 3 + 1 - 3 = i * 3 + 1 := by omega
      have e4 : (i + 1) * 3 + 2 - 3 = i * 3 + 2 := by omega
      rw [e2, e3, e4]
      simpa using this

/-- the three cells of a token in a slice -/
theorem Sl.tok {w : World} {B : Nat} {A : Option Addr} {n c : Nat} {l : List Tok} (h : Sl w B 3 (.slice A n c) n (tokCells l)) (hn : n = l.length) (i : Nat) (hi : i < n) :
    ∃ b o, A = some ⟨b, o, none⟩ ∧ w.cell? ⟨b, o + i * 3, none⟩ = some (.int .i64 (l[i]'(by omega)).kind) ∧ w.cell? ⟨b, o + i * 3 + 1, none⟩ = some (.string (bs (l[i]'(by omega)).text)) ∧ w.cell? ⟨b, o + i * 3 + 2, none⟩ = some (.int .i64 (l[i]'(by omega)).pos) := by
  obtain ⟨b, o, rfl, hb, hc⟩ := h.at_ (by omega)
  obtain ⟨h0, h1, h2⟩ := tokCells_get l i (by omega)
  refine ⟨b, o, rfl, hc _ _ h0, ?_, ?_⟩
  · rw [Nat.add_assoc]; exact hc _ _ h1
  · rw [Nat.add_assoc]; exact hc _ _ h2

set_option maxHeartbeats 4000000 in
theorem rsame_any (a b : List Tok) (va vb : Value) (B : Nat) (at_ : Bool) (w : World) (ha : Sl w B 3 va a.length (tokCells a)) (hb : Sl w B 3 vb b.length (tokCells b)) (hn : a.length ≤ 140737488351232) (hm : b.length ≤ 140737488351232) :
    Calls Try.prog 15 #[va, vb, .bool at_] w fun e w' => e = .returned (.bool (sameB a b at_)) ∧ ∃ k, w' = w.drewN k := by
  obtain ⟨R, hR⟩ : ∃ R, R = sameB a b at_ := ⟨_, rfl⟩
  rw [← hR]
  have HR := Lib.hid hR
  clear hR
  obtain ⟨A1, c1, rfl⟩ := ha.form
  obtain ⟨A2, c2, rfl⟩ := hb.form
  obtain ⟨n, hna⟩ : ∃ n, n = a.length := ⟨_, rfl⟩
  obtain ⟨m, hmb⟩ : ∃ m, m = b.length := ⟨_, rfl⟩
  rw [← hna] at ha hn ⊢
  rw [← hmb] at hb hm ⊢
  have HNA := Lib.hid hna
  have HMB := Lib.hid hmb
  have HA := Lib.hid ha
  have HB := Lib.hid hb
  clear hna hmb ha hb
  by_cases hl : n = m
  · subst hl
    have hlen : ((n : Int) != n) = false := by simp
    go_enter Try.func15, Try.ntmps15
    go_wp2
    go_loopw [15] (fun a_ wr => ∃ i : Nat, i ≤ n ∧ a_ = .int .i64 i ∧ (∃ k, wr = w.drewN k) ∧ ∀ j (h1 : j < a.length) (h2 : j < b.length), j < i → tokEq at_ a[j] b[j] = true) (fun a_ _ => n - (intOf a_).toNat)
    case atStart => exact ⟨0, Nat.zero_le _, rfl, ⟨0, rfl⟩, fun j _ _ h => by omega⟩
    case round =>
      obtain ⟨i, hi, rfl, ⟨k, rfl⟩, hall⟩ := hrel
      have Hall := Lib.hid hall
      clear hall
      by_cases hlt : i < n
      · have hia : i < a.length := by rw [← HNA.out]; exact hlt
        have hib : i < b.length := by rw [← HMB.out]; exact hlt
        obtain ⟨b1, o1, rfl, h0, h1, h2⟩ := HA.out.tok HNA.out i hlt
        obtain ⟨b2, o2, rfl, g0, g1, g2⟩ := HB.out.tok HMB.out i hlt
        obtain ⟨x, hx⟩ : ∃ x, x = a[i] := ⟨_, rfl⟩
        obtain ⟨y, hy⟩ : ∃ y, y = b[i] := ⟨_, rfl⟩
        rw [← hx] at h0 h1 h2
        rw [← hy] at g0 g1 g2
        obtain ⟨kx, tx, px⟩ := x
        obtain ⟨ky, ty, py⟩ := y
        dsimp only at h0 h1 h2 g0 g1 g2
        obtain ⟨sx, hsx⟩ : ∃ s, s = bs tx := ⟨_, rfl⟩
        obtain ⟨sy, hsy⟩ : ∃ s, s = bs ty := ⟨_, rfl⟩
        rw [← hsx] at h1
        rw [← hsy] at g1
        have HX := Lib.hid hx
        have HY := Lib.hid hy
        have heq : (sx.toList == sy.toList) = true ↔ tx = ty := by rw [beq_iff_eq, hsx, hsy, bs_toList, bs_toList]
        have Heq := Lib.hid heq
        clear hx hy heq hsx hsy
        have hd : decide ((i : Int) < n) = true := by simp; omega
        by_cases hk : kx = ky
        · subst hk
          have hk' : ((kx : Int) != kx) = false := by simp
          by_cases ht : (sx.toList == sy.toList) = true
          · have ht' : (sx.toList != sy.toList) = false := by rw [bne, ht]; rfl
            cases at_
            · have HT : Hid (tokEq false a[i] b[i] = true) := by
                rw [← HX.out, ← HY.out]; unfold tokEq; simp; exact Heq.out.1 ht
              go_wp2_with fail
              go_quiet (fail)
              go_wp2
              go_roundw
              case rel =>
                refine ⟨i + 1, by omega, by go_num, ⟨_, rfl⟩, fun j h1 h2 h => ?_⟩
                rcases Nat.lt_or_eq_of_le (Nat.le_of_lt_succ h) with hj | hj
                · exact Hall.out j h1 h2 hj
                · subst hj; exact HT.out
              case measure => simp [intOf]; omega
            · by_cases hp : px = py
              · subst hp
                have hp' : ((px : Int) != px) = false := by simp
                have HT : Hid (tokEq true a[i] b[i] = true) := by
                  rw [← HX.out, ← HY.out]; unfold tokEq; simp; exact Heq.out.1 ht
                go_wp2_with fail
                go_quiet (fail)
                go_wp2
                go_roundw
                case rel =>
                  refine ⟨i + 1, by omega, by go_num, ⟨_, rfl⟩, fun j h1 h2 h => ?_⟩
                  rcases Nat.lt_or_eq_of_le (Nat.le_of_lt_succ h) with hj | hj
                  · exact Hall.out j h1 h2 hj
                  · subst hj; exact HT.out
                case measure => simp [intOf]; omega
              · have hp' : ((px : Int) != py) = true := by simp; omega
                have HF : Hid (sameB a b true = false) := sameB_no a b true i hia hib (by rw [← HX.out, ← HY.out]; unfold tokEq; simp [hp])
                clear hp
                go_wp2_with fail
                go_quiet (fail)
                go_wp2
                go_ret
                exact ⟨ret_bool (by rw [HR.out, HF.out]), ⟨_, by first | exact World.drewN_drewN _ _ _ | rfl⟩⟩
          · have htf : (sx.toList == sy.toList) = false := by simpa using ht
            have ht' : (sx.toList != sy.toList) = true := by rw [bne, htf]; rfl
            have HF : Hid (sameB a b at_ = false) := sameB_no a b at_ i hia hib (by
              have hne : tx ≠ ty := fun h => ht (Heq.out.2 h)
              rw [← HX.out, ← HY.out]; unfold tokEq; simp [hne])
            clear ht
            go_wp2_with fail
            go_quiet (fail)
            go_wp2
            go_ret
            exact ⟨ret_bool (by rw [HR.out, HF.out]), ⟨_, by first | exact World.drewN_drewN _ _ _ | rfl⟩⟩
        · have hk' : ((kx : Int) != ky) = true := by simp; omega
          have HF : Hid (sameB a b at_ = false) := sameB_no a b at_ i hia hib (by rw [← HX.out, ← HY.out]; unfold tokEq; simp [hk])
          clear hk
          go_wp2_with fail
          go_quiet (fail)
          go_wp2
          go_ret
          exact ⟨ret_bool (by rw [HR.out, HF.out]), ⟨_, by first | exact World.drewN_drewN _ _ _ | rfl⟩⟩
      · have HF : Hid (sameB a b at_ = true) := sameB_yes a b at_ (HNA.out.symm.trans HMB.out) (fun j h1 h2 => Hall.out j h1 h2 (by have := HNA.out; omega))
        go_wp2
        go_ret
        exact ⟨ret_bool (by rw [HR.out, HF.out]), ⟨_, by first | exact World.drewN_drewN _ _ _ | rfl⟩⟩
  · have hlen : ((n : Int) != m) = true := by simp; omega
    have HF := Lib.hid (sameB_len a b at_ (by rw [← HNA.out, ← HMB.out]; exact hl))
    clear hl
    go_enter Try.func15, Try.ntmps15
    go_wp2
    go_ret
    exact ⟨ret_bool (by rw [HR.out, HF.out]), ⟨0, rfl⟩⟩

end Go.Proofs.Ytnfbmclaenodaaa
