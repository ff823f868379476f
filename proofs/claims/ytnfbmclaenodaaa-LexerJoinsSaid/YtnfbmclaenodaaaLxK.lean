/-
  Join of the reference and of the lexer, over a list of tokens that came in.
-/
import Derived.Test.YtnfbmclaenodaaaLxJ
import Derived.Test.YtnfbmclaenodaaaBldK
namespace Go.Proofs.Ytnfbmclaenodaaa
open Go.RowKit Lx
set_option linter.unusedSimpArgs false
set_option linter.unusedVariables false

/-- what Join gives, as a value -/
def joinV (l : List ITok) : Value := if joinOk l then .tuple #[.string (bs (jt l)), .int .i64 0] else .tuple #[.string (bs []), .int .i64 9]
theorem joinV_bad (l : List ITok) (i : Nat) (hi : i < l.length) (h : isTokB l[i] = false) : joinV l = .tuple #[.string (bs []), .int .i64 9] := by
  unfold joinV joinOk
  have : l.all isTokB = false := by
    rw [Bool.eq_false_iff]; intro h2; rw [List.all_eq_true] at h2
    have := h2 _ (List.getElem_mem hi); rw [h] at this; cases this
  rw [this]; rfl
theorem joinV_long (l : List ITok) (h : 4000 < (jt l).length) : joinV l = .tuple #[.string (bs []), .int .i64 9] := by
  unfold joinV joinOk
  rw [decide_eq_false (by omega), Bool.and_false]; rfl
theorem joinV_ok (l : List ITok) (h : ∀ j (hj : j < l.length), isTokB l[j] = true) (h2 : (jt l).length ≤ 4000) : joinV l = .tuple #[.string (bs (jt l)), .int .i64 0] := by
  unfold joinV joinOk
  have : l.all isTokB = true := by
    rw [List.all_eq_true]; intro x hx
    obtain ⟨j, hj, rfl⟩ := List.getElem_of_mem hx
    exact h j hj
  rw [this, decide_eq_true h2]; rfl

theorem jt_step0 (l : List ITok) (h : 0 < l.length) : jt (l.take 1) = l[0].text := by
  rw [List.take_succ_eq_append_getElem h]; simp [jt]
theorem jt_step (l : List ITok) (i : Nat) (h : i < l.length) (h0 : 0 < i) : jt (l.take (i + 1)) = jt (l.take i) ++ 32 :: l[i].text := by
  rw [List.take_succ_eq_append_getElem h]
  exact jt_snoc _ _ (by intro e; have := congrArg List.length e; rw [List.length_take, List.length_nil] at this; omega)

set_option maxHeartbeats 4000000 in
theorem rjoin_any (l : List ITok) (v : Value) (B n : Nat) (hnl : n = l.length) (w : World) (hB : B ≤ w.heap.size) (hv : Sl w B 3 v n (itokCells l)) (hn : n ≤ 200) (ht : ∀ t ∈ l, t.text.length ≤ 60) :
    Calls Try.prog 23 #[v] w fun e w' => e = .returned (joinV l) ∧ Below w.heap.size w w' := by
  obtain ⟨A, c, rfl⟩ := hv.form
  have HN := Lib.hid hnl
  have HV := Lib.hid hv
  have HT := Lib.hid ht
  have HL := Lib.hid (show ∀ k, (jt (l.take k)).length ≤ 20000 from fun k => by
    have h1 := jt_take_le l k
    have h2 := jt_bound l 60 ht
    rw [← hnl] at h2
    have : n * 61 ≤ 200 * 61 := Nat.mul_le_mul_right _ hn
    omega)
  clear hnl hv ht
  go_enter Try.func23, Try.ntmps23
  go_wp2_with fail
  go_loopw [4, 8] (fun s_ a_ wr => ∃ (i : Nat) (S : ByteArray), i ≤ n ∧ a_ = .int .i64 i ∧ s_ = .string S ∧ Hid (S.data.toList = jt (l.take i)) ∧ Below w.heap.size w wr ∧ Hid (∀ j (hj : j < l.length), j < i → isTokB l[j] = true)) (fun _ a_ _ => n - (intOf a_).toNat)
  case atStart => exact ⟨0, ⟨#[]⟩, Nat.zero_le _, rfl, rfl, Lib.hid (by simp [jt]), Below.refl _ _, Lib.hid (fun j _ h => by omega)⟩
  case round =>
    obtain ⟨i, S, hi, rfl, rfl, hS, hbel, hall⟩ := hrel
    have hSz : S.size ≤ 20000 := by have := HL.out i; rw [← hS.out] at this; exact this
    by_cases hlt : i < n
    · have hia : i < l.length := by rw [← HN.out]; exact hlt
      obtain ⟨b1, o1, rfl, hb1, h0, h1, h2⟩ := (HV.out.keep (w' := wr) (fun p hp => hbel.cell (by omega))).itok HN.out i hlt
      obtain ⟨kx, hkx⟩ : ∃ k, l[i].kind = k := ⟨_, rfl⟩
      obtain ⟨sx, hsx⟩ : ∃ s, bs l[i].text = s := ⟨_, rfl⟩
      obtain ⟨px, hpx⟩ : ∃ k, l[i].pos = k := ⟨_, rfl⟩
      rw [hkx] at h0
      rw [hsx] at h1
      rw [hpx] at h2
      have htx : sx.data.toList = l[i].text := by rw [← hsx]; rfl
      have hsz : sx.size ≤ 60 := by have := HT.out l[i] (List.getElem_mem hia); rw [← htx] at this; exact this
      have hd : decide ((i : Int) < n) = true := by simp; omega
      obtain ⟨r, hr⟩ : ∃ r, r = isTokB ⟨kx, sx.data.toList, px⟩ := ⟨_, rfl⟩
      have hr2 : isTokB l[i] = r := by rw [hr, htx, ← hkx, ← hpx]
      have HR2 := Lib.hid hr2
      have HC := Lib.hid (fun w => isToken_any kx px sx r hr (by omega) w)
      have HTX := Lib.hid htx
      have Hb1 := Lib.hid hb1
      clear hkx hsx hpx htx hr hr2
      have hbs := hbel.size
      cases r
      · have HF := Lib.hid (joinV_bad l i hia HR2.out)
        go_wp2_with (go_at_call 36; refine (HC.out _).mono ?_; rintro e w2 ⟨rfl, hb2⟩)
        go_ret2
        exact ⟨by rw [HF.out]; rfl, hbel.trans (hb2.mono hbs)⟩
      · have HA := Lib.hid (show ∀ j (hj : j < l.length), j < i + 1 → isTokB l[j] = true from fun j hj h => by
          rcases Nat.lt_or_eq_of_le (Nat.le_of_lt_succ h) with h' | h'
          · exact hall.out j hj h'
          · subst h'; exact HR2.out)
        by_cases hi0 : 0 < i
        · have HJ := Lib.hid (jt_step l i hia hi0)
          go_wp2_with (first
            | (go_at_call 36; refine (HC.out _).mono ?_; rintro e w2 ⟨rfl, hb2⟩; have h1' := (hb2.cell (p := ⟨b1, o1 + i * 3 + 1, none⟩) (by have := Hb1.out; show b1 < wr.heap.size; omega)).trans h1))
          go_roundw
          case rel =>
            exact ⟨i + 1, _, by omega, by go_num, rfl, Lib.hid (by rw [HJ.out]; simp [hS.out, HTX.out]), hbel.trans (hb2.mono hbs), HA⟩
          case measure => simp [intOf]; omega
        · have hi00 : i = 0 := by omega
          subst hi00
          have HJ := Lib.hid (jt_step0 l hia)
          simp only [Nat.zero_mul, Nat.add_zero] at h0 h1 h2
          go_wp2_with (first
            | (go_at_call 36; refine (HC.out _).mono ?_; rintro e w2 ⟨rfl, hb2⟩; have h1' := (hb2.cell (p := ⟨b1, o1 + 1, none⟩) (by have := Hb1.out; show b1 < wr.heap.size; omega)).trans h1))
          go_roundw
          case rel =>
            exact ⟨1, _, by omega, by go_num, rfl, Lib.hid (by rw [HJ.out]; simp [hS.out, HTX.out, jt_nil]), hbel.trans (hb2.mono hbs), HA⟩
          case measure => simp [intOf]; omega
    · have hin : i = n := by omega
      have HAll := Lib.hid (show ∀ j (hj : j < l.length), isTokB l[j] = true from fun j hj => hall.out j hj (by have := HN.out; omega))
      have HS := Lib.hid (show S.data.toList = jt l by rw [hS.out, List.take_of_length_le (by have := HN.out; omega)])
      clear hall
      by_cases hlong : 4000 < S.size
      · have HF := Lib.hid (joinV_long l (by rw [← HS.out]; exact hlong))
        go_wp2_with fail
        go_ret2
        exact ⟨by rw [HF.out]; rfl, hbel⟩
      · have HF := Lib.hid (joinV_ok l HAll.out (by rw [← HS.out, size_len]; omega))
        go_wp2_with fail
        go_ret2
        exact ⟨by rw [HF.out, ← HS.out]; rfl, hbel⟩

/-! ### the lexer's Join -/
theorem ownF_below {a w : World} {B : Nat} {e : TypeId} {size n : Nat} {v : Value} {xs : List Value} (h : a.ownsRowF B e size v n xs) (hb : Below a.heap.size a w) : w.ownsRowF B e size v n xs := by
  refine ⟨h.1, ?_⟩
  rcases h.2 with h0 | ⟨g, cap, cur, fz, hv, hB, hg, r⟩
  · exact .inl h0
  · exact .inr ⟨g, cap, cur, fz, hv, hB, (hb.block g (Array.getElem?_eq_some_iff.1 hg).1).trans hg, r⟩
theorem builderF_below {T e : TypeId} {B b : Nat} {p : Value} {bs : List Value} {a w : World} (h : Lib.BuilderAtF T e B b p bs a) (hb : Below a.heap.size a w) : Lib.BuilderAtF T e B b p bs w := by
  have hlt := h.lt
  obtain ⟨hB, v, hbk, hown, hne⟩ := h
  exact ⟨hB, v, (hb.block b hlt).trans hbk, ownF_below hown hb, hne⟩
theorem isBuilderF_below {T e : TypeId} {B b : Nat} {bs : List Value} {a w : World} (h : Lib.IsBuilderF T e B b bs a) (hb : Below a.heap.size a w) : Lib.IsBuilderF T e B b bs w := by
  rcases h with h | h
  · exact .inl (builderF_below h hb)
  · exact .inr (builderF_below h hb)
abbrev IsB (B : Nat) (l : Bytes) (w : World) : Prop := Lib.IsBuilderF 56 5 B B (Lib.byteCells l) w
theorem isB_lt {B : Nat} {l : Bytes} {w : World} (h : IsB B l w) : B < w.heap.size := by rcases h with h | h <;> exact h.lt
theorem isB_fresh (w : World) : IsB w.heap.size [] (w.alloc (.cells #[.pointer none, .slice none 0 0] 56)) := Lib.IsBuilderF.of (Lib.fresh_isBuilder _ _ w)
/-- the writers, on bytes -/
theorem wbyte_any (B : Nat) (l : Bytes) (c : UInt8) (ci : Int) (hc : ci = (c.toNat : Int)) (w : World) (h : IsB B l w) (hl : l.length + 1 ≤ 140737488355328) :
    Calls Try.prog 32 #[.pointer (some ⟨B, 0, none⟩), .int .u8 ci] w fun e w' => e = .returned .nilIface ∧ IsB B (l ++ [c]) w' ∧ Below B w w' ∧ Lib.OthersKept 5 (some B) w w' := by
  subst hc
  refine (Builder_WriteByte_k B B _ (c.toNat : Int) w h (by rw [Lib.byteCells_length]; exact hl) (Nat.le_of_lt (isB_lt h))).mono ?_
  rintro e w' ⟨he, h1, h2, h3⟩
  refine ⟨he, ?_, h2, h3⟩
  have e : Lib.byteCells (l ++ [c]) = Lib.byteCells l ++ [.int .u8 (c.toNat : Int)] := by rw [Lib.byteCells_append]; rfl
  show Lib.IsBuilderF _ _ _ _ (Lib.byteCells (l ++ [c])) w'
  rw [e]; exact .inr h1
theorem wstring_any (B : Nat) (l : Bytes) (s : ByteArray) (w : World) (h : IsB B l w) (hl : l.length + s.size ≤ 140737488355328) :
    Calls Try.prog 33 #[.pointer (some ⟨B, 0, none⟩), .string s] w fun e w' => e = .returned (.tuple #[.int .i64 s.size, .nilIface]) ∧ IsB B (l ++ s.data.toList) w' ∧ Below B w w' ∧ Lib.OthersKept 5 (some B) w w' := by
  refine (Builder_WriteString_k B B _ s w h (by rw [Lib.byteCells_length]; exact hl) (Nat.le_of_lt (isB_lt h))).mono ?_
  rintro e w' ⟨he, h1, h2, h3⟩
  refine ⟨he, ?_, h2, h3⟩
  show Lib.IsBuilderF _ _ _ _ (Lib.byteCells (l ++ s.data.toList)) w'
  rw [Lib.byteCells_append]; exact .inr h1
theorem blen_any (B : Nat) (l : Bytes) (w : World) (h : IsB B l w) (n : Nat) (hn : n = l.length) :
    Calls Try.prog 34 #[.pointer (some ⟨B, 0, none⟩)] w fun e w' => e = .returned (.int .i64 (n : Int)) ∧ w' = w := by
  have := Builder_Len_f B B _ w h
  rw [Lib.byteCells_length, ← hn] at this; exact this
theorem bstring_any (B : Nat) (l : Bytes) (w : World) (h : IsB B l w) :
    Calls Try.prog 35 #[.pointer (some ⟨B, 0, none⟩)] w fun e w' => e = .returned (.string (bs l)) ∧ Below B w w' :=
  (Builder_String_any_k B B l w h (Nat.le_of_lt (isB_lt h))).mono fun e w' ⟨he, _, hb, _⟩ => ⟨he, hb⟩
/-- a block above the builder that is no row of bytes -/
theorem others_cell {e : TypeId} {b : Nat} {w w' : World} (h : Lib.OthersKept e (some b) w w') {k : Nat} {cs : Array Value} {T : TypeId} {fr : Nat × Nat} (hk : w.heap[k]? = some (.cells cs T fr)) (hb : k ≠ b) (hT : T ≠ e) : w'.heap[k]? = some (.cells cs T fr) :=
  h k _ hk (fun e' => hb (by injection e')) (fun c fz e' => by injection e' with _ e2 _; exact hT e2)
theorem heap_cell {w : World} {b : Nat} {cs : Array Value} {T : TypeId} {fr : Nat × Nat} (hb : w.heap[b]? = some (.cells cs T fr)) (j : Nat) : w.cell? ⟨b, j, none⟩ = cs[j]? := by simp [World.cell?, hb]

theorem oneOf_false_len (L : List Tok) (er : Nat) (t : ITok) (h : L.length ≠ 1) : oneOf L er t = false := by
  unfold oneOf
  match L with
  | [] => simp
  | [x] => simp at h
  | x :: y :: r => simp

set_option maxHeartbeats 8000000 in
theorem join_any (l : List ITok) (v : Value) (B n : Nat) (hnl : n = l.length) (w : World) (hB : B ≤ w.heap.size) (hv : Sl w B 3 v n (itokCells l)) (hn : n ≤ 200) (ht : ∀ t ∈ l, t.text.length ≤ 60) :
    Calls Try.prog 22 #[v] w fun e w' => e = .returned (joinV l) ∧ Below w.heap.size w w' := by
  obtain ⟨A, c, rfl⟩ := hv.form
  have HN := Lib.hid hnl
  have HV := Lib.hid hv
  have HT := Lib.hid ht
  have HL := Lib.hid (show ∀ k, (jt (l.take k)).length ≤ 20000 from fun k => by
    have h1 := jt_take_le l k
    have h2 := jt_bound l 60 ht
    rw [← hnl] at h2
    have : n * 61 ≤ 200 * 61 := Nat.mul_le_mul_right _ hn
    omega)
  clear hnl hv ht
  have hI0 : IsB w.heap.size [] (w.alloc (.cells #[.pointer none, .slice none 0 0] 56)) := isB_fresh w
  have hb0 : Below w.heap.size w (w.alloc (.cells #[.pointer none, .slice none 0 0] 56)) := (Below.refl _ w).alloc (Nat.le_refl _) _
  have HI0 := Lib.hid hI0
  have HB0 := Lib.hid hb0
  clear hI0 hb0
  go_enter Try.func22, Try.ntmps22
  go_wp2_with fail
  go_loopw [12] (fun a_ wr => ∃ (i : Nat), i ≤ n ∧ a_ = .int .i64 i ∧ Hid (IsB w.heap.size (jt (l.take i)) wr) ∧ Below w.heap.size w wr ∧ Hid ((jt (l.take i)).length ≤ 4000) ∧ Hid (∀ j (hj : j < l.length), j < i → isTokB l[j] = true)) (fun a_ _ => n - (intOf a_).toNat)
  case atStart => exact ⟨0, Nat.zero_le _, rfl, HI0, HB0.out, Lib.hid (by simp [jt]), Lib.hid (fun j _ h => by omega)⟩
  case round =>
    obtain ⟨i, hi, rfl, hI, hbel, hlen, hall⟩ := hrel
    by_cases hlt : i < n
    · have hia : i < l.length := by rw [← HN.out]; exact hlt
      obtain ⟨b1, o1, rfl, hb1, h0, h1, h2⟩ := (HV.out.keep (w' := wr) (fun p hp => hbel.cell (by omega))).itok HN.out i hlt
      obtain ⟨kx, hkx⟩ : ∃ k, l[i].kind = k := ⟨_, rfl⟩
      obtain ⟨sx, hsx⟩ : ∃ s, bs l[i].text = s := ⟨_, rfl⟩
      obtain ⟨px, hpx⟩ : ∃ k, l[i].pos = k := ⟨_, rfl⟩
      rw [hkx] at h0
      rw [hsx] at h1
      rw [hpx] at h2
      have htx : sx.data.toList = l[i].text := by rw [← hsx]; rfl
      have hsz : sx.size ≤ 60 := by have := HT.out l[i] (List.getElem_mem hia); rw [← htx] at this; exact this
      have hd : decide ((i : Int) < n) = true := by simp; omega
      obtain ⟨toks, p, er, hlex⟩ : ∃ a b c, lex sx.data.toList = (a, b, c) := ⟨_, _, _, rfl⟩
      have hone : isTokB l[i] = oneOf toks er ⟨kx, sx.data.toList, px⟩ := by
        have e : l[i] = ⟨kx, sx.data.toList, px⟩ := by rw [← hkx, htx, ← hpx]
        rw [← oneB_is _ (by rw [← htx, size_len]; omega), e]
        unfold oneB
        rw [hlex]
      obtain ⟨m, hm⟩ : ∃ m, m = toks.length := ⟨_, rfl⟩
      have HC := Lib.hid (fun w => lex_is sx (by omega) toks p er hlex m hm w)
      have HTX := Lib.hid htx
      have Hb1 := Lib.hid hb1
      have HO := Lib.hid hone
      have HM := Lib.hid hm
      clear hkx hsx hpx htx hlex hone hm
      have hbs := hbel.size
      have c0 : (wr.alloc (.cells #[.int .i64 kx, .string sx, .int .i64 px] 30)).cell? ⟨wr.heap.size, 0, none⟩ = some (.int .i64 kx) := cell_new _ _ _ _
      have c1 : (wr.alloc (.cells #[.int .i64 kx, .string sx, .int .i64 px] 30)).cell? ⟨wr.heap.size, 1, none⟩ = some (.string sx) := cell_new _ _ _ _
      have cb : Below wr.heap.size wr (wr.alloc (.cells #[.int .i64 kx, .string sx, .int .i64 px] 30)) := (Below.refl _ wr).alloc (Nat.le_refl _) _
      have cs : wr.heap.size < (wr.alloc (.cells #[.int .i64 kx, .string sx, .int .i64 px] 30)).heap.size := by simp
      have Fin := Lib.hid (show ∀ w2, Below (wr.alloc (.cells #[.int .i64 kx, .string sx, .int .i64 px] 30)).heap.size (wr.alloc (.cells #[.int .i64 kx, .string sx, .int .i64 px] 30)) w2 →
        Below wr.heap.size wr w2 ∧ w2.cell? ⟨wr.heap.size, 0, none⟩ = some (.int .i64 kx) ∧ w2.cell? ⟨wr.heap.size, 1, none⟩ = some (.string sx) ∧ IsB w.heap.size (jt (l.take i)) w2 ∧ w2.heap[wr.heap.size]? = some (.cells #[.int .i64 kx, .string sx, .int .i64 px] 30 (0, 0)) from
        fun w2 h => ⟨cb.trans (h.mono (by omega)), (h.cell (p := ⟨wr.heap.size, 0, none⟩) cs).trans c0, (h.cell (p := ⟨wr.heap.size, 1, none⟩) cs).trans c1, isBuilderF_below hI.out (cb.trans (h.mono (by omega))), (h.block _ cs).trans (heap_alloc_new wr _)⟩)
      clear c0 c1 cb cs
      by_cases he : er = 0
      · subst he
        by_cases hm1 : m = 1
        · subst hm1
          obtain ⟨⟨kk, tt, pp⟩, rfl⟩ := List.length_eq_one_iff.1 HM.out.symm
          have hone : isTokB l[i] = (((kk : Int) == kx) && tt == sx.data.toList) := by rw [HO.out]; unfold oneOf; simp
          obtain ⟨s2, hs2⟩ : ∃ s2, s2 = bs tt := ⟨_, rfl⟩
          have hte : (s2.toList == sx.toList) = (tt == sx.data.toList) := by rw [hs2, bs_toList, ByteArray.toList_eq]
          have hone' : isTokB l[i] = (((kk : Int) == kx) && (s2.toList == sx.toList)) := by rw [hone, hte]
          have HO' := Lib.hid hone'
          have HS2 := Lib.hid hs2
          clear hone hone' hte hs2 HO
          have HC' := Lib.hid (show ∀ w, Calls Try.prog 13 #[.string sx] w fun e w' => ∃ b2 o2 c2, e = .returned (.tuple #[.slice (some ⟨b2, o2, none⟩) 1 c2, .int .i64 (p : Int), .int .i64 0]) ∧ w'.cell? ⟨b2, o2, none⟩ = some (.int .i64 (kk : Int)) ∧ w'.cell? ⟨b2, o2 + 1, none⟩ = some (.string s2) ∧ 1 ≤ c2 ∧ Below w.heap.size w w' from fun w => by
            refine (HC.out w).mono ?_
            rintro e w' ⟨A2, c2, rfl, hS2, hb2⟩
            obtain ⟨b2, o2, rfl, f0, f1, f2⟩ := hS2.tok rfl 0 (by omega)
            obtain ⟨_, _, e1, e2, _⟩ := hS2
            injection e1 with _ _ e3
            subst e3
            simp only [Nat.zero_mul, Nat.add_zero, List.getElem_cons_zero] at f0 f1
            exact ⟨b2, o2, c2, rfl, f0, by rw [HS2.out]; exact f1, e2, hb2⟩)
          clear HC
          by_cases hk : (kk : Int) = kx
          · have hk' : ((kk : Int) != kx) = false := by simpa using hk
            by_cases htt : (s2.toList == sx.toList) = true
            · have htt' : (s2.toList != sx.toList) = false := by rw [bne, htt]; rfl
              have htt2 : (!s2.toList == sx.toList) = false := by rw [htt]; rfl
              have HTrue := Lib.hid (show isTokB l[i] = true by rw [HO'.out, htt]; simpa using hk)
              have HA := Lib.hid (show ∀ j (hj : j < l.length), j < i + 1 → isTokB l[j] = true from fun j hj h => by
                rcases Nat.lt_or_eq_of_le (Nat.le_of_lt_succ h) with h' | h'
                · exact hall.out j hj h'
                · subst h'; exact HTrue.out)
              clear hk htt
              obtain ⟨N, hN⟩ : ∃ N, N = (jt (l.take (i + 1))).length := ⟨_, rfl⟩
              have hlen2 := hlen.out
              have hNl : N ≤ 20000 := by rw [hN]; exact HL.out _
              have HNN := Lib.hid hN
              have HJl := Lib.hid (show N ≤ (jt l).length by rw [hN]; exact jt_take_le _ _)
              clear hN
              by_cases hi0 : 0 < i
              · have hjs := jt_step l i hia hi0
                rw [← HTX.out] at hjs
                have HJ := Lib.hid hjs
                clear hjs
                have Kp := Lib.hid (show ∀ w2 k w4 w5, Below w.heap.size w w2 → Below w.heap.size (w2.drewN k) w4 → Below w.heap.size w4 w5 → Below w.heap.size w w5 from fun w2 k w4 w5 h1 h2 h3 => (below_drewN h1 k).trans (h2.trans h3))
                go_wp2_with (go_at_call 13; refine (HC'.out _).mono ?_; rintro e w2 ⟨b2, o2, c2, rfl, f0, f1, hc2, hb2⟩; obtain ⟨hb3, t0, t1, hI2, hT2⟩ := Fin.out _ hb2)
                go_quiet (fail)
                have HI3 := Lib.hid (show IsB w.heap.size (jt (l.take i)) (w2.drewN nq) from isBuilderF_below hI2 (below_drewN (Below.refl _ _) _))
                have HT3 := Lib.hid (show (w2.drewN nq).heap[wr.heap.size]? = some (.cells #[.int .i64 kx, .string sx, .int .i64 px] 30 (0, 0)) from hT2)
                clear hI2 hT2
                have hbw : Below w.heap.size w w2 := hbel.trans (hb3.mono hbs)
                have hIl := Lib.hid (isB_lt hI.out)
                go_wp2_with (first
                  | (go_at_call 32; refine (wbyte_any _ _ 32 32 rfl _ HI3.out (by omega)).mono ?_; rintro e w4 ⟨rfl, hI4, hb4, ho4⟩; have HI4 := Lib.hid hI4; have t4 : w4.cell? ⟨wr.heap.size, 1, none⟩ = some (.string sx) := heap_cell (others_cell ho4 HT3.out (by have := hIl.out; omega) (by decide)) 1; clear hI4)
                  | (go_at_call 33; refine (wstring_any _ _ sx _ HI4.out (by rw [List.length_append, List.length_cons, List.length_nil]; omega)).mono ?_; rintro e w5 ⟨rfl, hI5, hb5, ho5⟩; have HI5 := Lib.hid (show IsB w.heap.size (jt (l.take (i + 1))) w5 by rw [HJ.out]; simpa using hI5); clear hI5)
                  | (go_at_call 34; refine (blen_any _ _ _ HI5.out N HNN.out).mono ?_; rintro e w6 ⟨rfl, rfl⟩))
                · go_ret2
                  exact ⟨by rw [joinV_long l (by have := HJl.out; omega)]; rfl, Kp.out _ _ _ _ hbw hb4 hb5⟩
                · go_roundw
                  case rel => exact ⟨i + 1, by omega, by go_num, HI5, Kp.out _ _ _ _ hbw hb4 hb5, Lib.hid (by rw [← HNN.out]; omega), HA⟩
                  case measure => simp [intOf]; omega
              · have hi00 : i = 0 := by omega
                subst hi00
                simp only [Nat.zero_mul, Nat.add_zero] at h0 h1 h2
                have HNN : Hid (N = (jt (l.take 1)).length) := HNN
                have hjs := jt_step0 l hia
                rw [← HTX.out] at hjs
                have HJ := Lib.hid hjs
                clear hjs
                have Kp := Lib.hid (show ∀ w2 k w4 w5, Below w.heap.size w w2 → Below w.heap.size (w2.drewN k) w4 → Below w.heap.size w4 w5 → Below w.heap.size w w5 from fun w2 k w4 w5 h1 h2 h3 => (below_drewN h1 k).trans (h2.trans h3))
                go_wp2_with (go_at_call 13; refine (HC'.out _).mono ?_; rintro e w2 ⟨b2, o2, c2, rfl, f0, f1, hc2, hb2⟩; obtain ⟨hb3, t0, t1, hI2, hT2⟩ := Fin.out _ hb2)
                go_quiet (fail)
                have HI3 := Lib.hid (show IsB w.heap.size (jt (l.take 0)) (w2.drewN nq) from isBuilderF_below hI2 (below_drewN (Below.refl _ _) _))
                have HT3 := Lib.hid (show (w2.drewN nq).heap[wr.heap.size]? = some (.cells #[.int .i64 kx, .string sx, .int .i64 px] 30 (0, 0)) from hT2)
                clear hI2 hT2
                have hbw : Below w.heap.size w w2 := hbel.trans (hb3.mono hbs)
                have hIl := Lib.hid (isB_lt hI.out)
                go_wp2_with (first
                  | (go_at_call 33; refine (wstring_any _ _ sx _ HI3.out (by omega)).mono ?_; rintro e w5 ⟨rfl, hI5, hb5, ho5⟩; have HI5 := Lib.hid (show IsB w.heap.size (jt (l.take 1)) w5 by rw [HJ.out]; simpa [jt_nil] using hI5); clear hI5)
                  | (go_at_call 34; refine (blen_any _ _ _ HI5.out N HNN.out).mono ?_; rintro e w6 ⟨rfl, rfl⟩))
                · go_ret2
                  exact ⟨by rw [joinV_long l (by have := HJl.out; omega)]; rfl, Kp.out _ _ _ _ hbw (Below.refl _ _) hb5⟩
                · go_roundw
                  case rel => exact ⟨1, by omega, by go_num, HI5, Kp.out _ _ _ _ hbw (Below.refl _ _) hb5, Lib.hid (by rw [← HNN.out]; omega), HA⟩
                  case measure => simp [intOf]; omega
            · have htf : (s2.toList == sx.toList) = false := by simpa using htt
              have htt' : (s2.toList != sx.toList) = true := by rw [bne, htf]; rfl
              have htt2 : (!s2.toList == sx.toList) = true := by rw [htf]; rfl
              have HF := Lib.hid (joinV_bad l i hia (by rw [HO'.out, htf]; simp))
              clear hk htt
              go_wp2_with (go_at_call 13; refine (HC'.out _).mono ?_; rintro e w2 ⟨b2, o2, c2, rfl, f0, f1, hc2, hb2⟩; obtain ⟨hb3, t0, t1, hI2, hT2⟩ := Fin.out _ hb2; clear hI2 hT2)
              go_quiet (fail)
              go_wp2
              go_ret2
              exact ⟨by rw [HF.out]; rfl, below_drewN (hbel.trans (hb3.mono hbs)) _⟩
          · have HF := Lib.hid (joinV_bad l i hia (by rw [HO'.out]; simp [hk]))
            have hk' : ((kk : Int) != kx) = true := by simpa using hk
            clear hk
            go_wp2_with (go_at_call 13; refine (HC'.out _).mono ?_; rintro e w2 ⟨b2, o2, c2, rfl, f0, f1, hc2, hb2⟩; obtain ⟨hb3, t0, t1, hI2, hT2⟩ := Fin.out _ hb2; clear hI2 hT2)
            go_quiet (fail)
            go_wp2
            go_ret2
            exact ⟨by rw [HF.out]; rfl, below_drewN (hbel.trans (hb3.mono hbs)) _⟩
        · have HF := Lib.hid (joinV_bad l i hia (by rw [HO.out]; exact oneOf_false_len _ _ _ (by rw [← HM.out]; exact hm1)))
          have hm' : ((m : Int) != 1) = true := by simp; omega
          clear hm1
          go_wp2_with (go_at_call 13; refine (HC.out _).mono ?_; rintro e w2 ⟨A2, c2, rfl, hS2, hb2⟩; obtain ⟨hb3, t0, t1, hI2, hT2⟩ := Fin.out _ hb2; clear hI2 hT2)
          go_quiet (fail)
          go_wp2
          go_ret2
          exact ⟨by rw [HF.out]; rfl, below_drewN (hbel.trans (hb3.mono hbs)) _⟩
      · have HF := Lib.hid (joinV_bad l i hia (by rw [HO.out]; unfold oneOf; simp [he]))
        have he' : ((er : Int) != 0) = true := by simp; omega
        clear he
        go_wp2_with (go_at_call 13; refine (HC.out _).mono ?_; rintro e w2 ⟨A2, c2, rfl, hS2, hb2⟩; obtain ⟨hb3, t0, t1, hI2, hT2⟩ := Fin.out _ hb2; clear hI2 hT2)
        go_quiet (fail)
        go_wp2
        go_ret2
        exact ⟨by rw [HF.out]; rfl, below_drewN (hbel.trans (hb3.mono hbs)) _⟩
    · have hin : i = n := by omega
      have HAll := Lib.hid (show ∀ j (hj : j < l.length), isTokB l[j] = true from fun j hj => hall.out j hj (by have := HN.out; omega))
      have HJ := Lib.hid (show jt (l.take i) = jt l by rw [List.take_of_length_le (by have := HN.out; omega)])
      have HI := Lib.hid (show IsB w.heap.size (jt l) wr by rw [← HJ.out]; exact hI.out)
      have HF := Lib.hid (joinV_ok l HAll.out (by rw [← HJ.out]; exact hlen.out))
      clear hall hI hin
      go_wp2_with (go_at_call 35; refine (bstring_any _ _ _ HI.out).mono ?_; rintro e w7 ⟨rfl, hb7⟩)
      go_ret2
      exact ⟨by rw [HF.out]; rfl, hbel.trans hb7⟩
end Go.Proofs.Ytnfbmclaenodaaa
