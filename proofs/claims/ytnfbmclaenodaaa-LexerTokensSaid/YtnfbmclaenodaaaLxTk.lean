/-
  The walk of lexer.Tokens and of its closure: the contract of the iterator, for every string of at most 4000 bytes, and for a longer one.
-/
import Derived.RangeFuncNested
import Derived.RangeFuncBound
import Derived.RangeFuncCalls
import Derived.RangeFuncLeaves
import Derived.RangeFuncBox
import Derived.Shelf.Abstract
import Derived.WalkKit
import Derived.OwnWalkIn
import Derived.TacticsInMore
import Derived.LoopNIn
import Derived.LoopIn
import Derived.Maps.AppendAt
import Derived.Test.YtnfbmclaenodaaaLxV
namespace Go.Proofs.Ytnfbmclaenodaaa
open Go.RowKit Go.Shelf Lx
set_option linter.unusedSimpArgs false
set_option linter.unusedVariables false

/-! ### append, and where the result lies -/
theorem append_where {P : Program} (w : World) (base : Nat) (t ty e : TypeId) (i : TypeInfo) (z : Value) (size bytes : Nat) (ht : P.underlying t = some (.slice e)) (hi : P.info? e = some i) (hz : i.zero = some z)
    (hsize : i.size = size) (hby : i.bytes = bytes) (v : Value) (n : Nat) (xs : List Value) (hown : w.ownsRow base e size v n xs)
    (a : Addr) (m c : Nat) (news : List Value) (hl : news.length = m * size) (hnews : ∀ j u, news[j]? = some u → w.cell? (a.add j) = some u) (h1 : ∀ u ∈ news, u.oneCell' = true)
    (h63 : n + m ≤ maxLen) (hbytes : (n + m) * bytes ≤ 140737488355328) (hm : m ≠ 0) (v' : Value) (w' : World)
    (hr : (Builtin.append_ #[t, t] ty #[v, .slice (some a) m c]).run P w = .ok v' w') :
    v'.ownBlock = v.ownBlock ∨ (v'.ownBlock = some w.heap.size ∧ w.heap.size < w'.heap.size) := by
  subst hsize
  subst hby
  have h64 : n + m ≤ 9223372036854775807 := by simp only [maxLen] at h63; omega
  rcases hown.2 with ⟨rfl, rfl⟩ | ⟨g, cap, cur, rfl, hbg, hg, hnc, hcm, hcs, htake⟩
  · have h := run_append_nil (P := P) w t ty e i z ht hi hz a m c news hl hnews (by omega) (by omega) (by have hb := hbytes; simp only [Nat.zero_add] at hb; omega)
    rw [h] at hr
    injection hr with hv hw
    subst hv; subst hw
    exact .inr ⟨rfl, by simp⟩
  · by_cases hroom : n + m ≤ cap
    · have hfit : n * i.size + news.length ≤ cur.size := by rw [hl, hcs, ← Nat.add_mul]; exact Nat.mul_le_mul_right _ hroom
      have h := run_append_room (P := P) w t ty e i ht hi g n cap cur hg a m c news hl hnews h1 hroom hfit
      rw [h] at hr
      injection hr with hv hw
      subst hv
      exact .inl rfl
    · have holds : ∀ j u, xs[j]? = some u → w.cell? ((⟨g, 0, none⟩ : Addr).add j) = some u := hown.cells (g := g) rfl
      have h := run_append_grow (P := P) w t ty e i z ht hi hz ⟨g, 0, none⟩ n cap xs hown.1 holds a m c news hl hnews (by omega) (by omega) (growslice_fits (by omega) hbytes)
      rw [h] at hr
      injection hr with hv hw
      subst hv; subst hw
      exact .inr ⟨rfl, by simp⟩

theorem wpListIn_append_at {F : Fence} {n : Nat} {P : Program} (w : World) {ops : Array Oper} {rest : List Oper} {o : Oper} {a : Act} {Q : Exit → Act → World → Prop}
    (hg : o.guard = none) (s x : Operand) (t : TypeId) (hop : o.op = Op.call { callee := Callee.builtin Builtin.append, args := #[s, x], argTypes := #[t, t] })
    (base : Nat) (e : TypeId) (i : TypeInfo) (z : Value) (size bytes : Nat) (h1 : P.underlying t = some (.slice e)) (h2 : P.info? e = some i) (h3 : i.zero = some z) (h4 : i.size = size) (h5 : i.bytes = bytes) (h6 : z.cells.size = size) (h7 : 0 < size)
    (v : Value) (k : Nat) (xs : List Value) (hs : a.eval s = v) (hown : w.ownsRow base e size v k xs) (ad : Addr) (m c : Nat) (news : List Value) (hx : a.eval x = .slice (some ad) m c) (hn : news.length = m * size)
    (hc : ∀ j u, news[j]? = some u → w.cell? (ad.add j) = some u) (h1c : ∀ u ∈ news, u.oneCell' = true) (b1 : k + m ≤ maxLen) (b2 : (k + m) * bytes ≤ 140737488355328) (b3 : base ≤ w.heap.size) (hm : m ≠ 0)
    (hK : ∀ v' w', w'.ownsRow base e size v' (k + m) (xs ++ news) → w.grownBy w' v.ownBlock → (v'.ownBlock = v.ownBlock ∨ (v'.ownBlock = some w.heap.size ∧ w.heap.size < w'.heap.size)) → wpListIn F n P ops Q rest (a.put o.dst v') w') :
    wpListIn F n P ops Q (o :: rest) a w := by
  refine wpListIn_plain hg fun K hK' => ?_
  obtain ⟨v', w', hrun, r1, r2, _⟩ := run_append_own (P := P) w base t o.type e i z size bytes h1 h2 h3 h4 h5 h6 h7 v k xs hown ad m c news hn hc h1c b1 b2 b3
  have r3 := append_where (P := P) w base t o.type e i z size bytes h1 h2 h3 h4 h5 v k xs hown ad m c news hn hc h1c b1 b2 hm v' w' hrun
  unfold Oper.wpIn
  refine ⟨?_, ?_⟩
  · simp [Oper.about, hop, resolve, Target.leads, Sem.run_pure]
  · rw [Oper.semAt_plain F _ _ (by rw [hop]; intro c hc'; cases hc')]
    simp [execOp, hop, resolve, invoke, builtin, hs, hx, hrun, Result.andThen]
    exact hK' _ _ (hK v' w' r1 r2 r3)

/-! ### what a round keeps: all cells but the box Bg and the row that it holds -/
def gotRow (Bg : Nat) (W : World) : Option Nat := (W.cell? ⟨Bg, 0, none⟩).bind Value.ownBlock

structure KpT (Bg : Nat) (W W' : World) : Prop where
  size : W.heap.size ≤ W'.heap.size
  same : ∀ k o, W.heap[k]? = some o → o.isCells = true → k ≠ Bg → gotRow Bg W ≠ some k → W'.heap[k]? = some o
  row : gotRow Bg W' = gotRow Bg W ∨ ∃ r, gotRow Bg W' = some r ∧ W.heap.size ≤ r ∧ r < W'.heap.size

theorem KpT.trans {Bg : Nat} {A B C : World} (h : KpT Bg A B) (k : KpT Bg B C) : KpT Bg A C := by
  refine ⟨Nat.le_trans h.size k.size, fun j o hj ho hne hr => ?_, ?_⟩
  · refine k.same j o (h.same j o hj ho hne hr) ho hne ?_
    have hlt := (Array.getElem?_eq_some_iff.1 hj).1
    rcases h.row with e | ⟨r, e, h1, _⟩
    · rw [e]; exact hr
    · rw [e]; intro e'; injection e' with e'; omega
  · rcases k.row with e | ⟨r, e, h1, h2⟩
    · rcases h.row with e2 | ⟨r, e2, h1, h2⟩
      · exact .inl (e.trans e2)
      · exact .inr ⟨r, e.trans e2, h1, Nat.lt_of_lt_of_le h2 k.size⟩
    · exact .inr ⟨r, e, Nat.le_trans h.size h1, h2⟩

theorem gotRow_of_block {Bg : Nat} {W W' : World} (h : W'.heap[Bg]? = W.heap[Bg]?) : gotRow Bg W' = gotRow Bg W := by
  unfold gotRow; rw [World.cell?_of_block (a := ⟨Bg, 0, none⟩) h]

theorem KpT.of_grown {Bg : Nat} {W W' : World} {row : Option Nat} (hg : W.grownBy W' row) (hB : Bg < W.heap.size) (hr : ∀ r, row = some r → r ≠ Bg ∧ ∃ o, W.heap[r]? = some o ∧ o.isCells = false) : KpT Bg W W' := by
  refine ⟨hg.size, fun k o hk ho hne _ => ?_, .inl (gotRow_of_block (hg.block Bg hB (fun e => (hr _ e.symm).1 rfl)))⟩
  refine (hg.block k (Array.getElem?_eq_some_iff.1 hk).1 (fun e => ?_)).trans hk
  obtain ⟨_, o', ho', hc⟩ := hr _ e.symm
  rw [hk] at ho'; cases ho'; rw [ho] at hc; cases hc
theorem kpT_b {Bg : Nat} {w : World} (hB : Bg < w.heap.size) (W : World) (l : Nat) (o o' : Obj) (hl : w.heap.size ≤ l) (h : W.heap[l]? = some o) (hc : o.isCells = false) (_ : o.isWalk = false) : KpT Bg W (W.putObj l o') :=
  KpT.of_grown (grownBy_putObj' W l o') (by have := (Array.getElem?_eq_some_iff.1 h).1; omega) (fun r e => by cases e; exact ⟨by omega, o, h, hc⟩)

theorem grownBy_below {W W' : World} (h : Below W.heap.size W W') : W.grownBy W' none := ⟨h.os, h.tape, h.output, h.size, fun k hk _ => h.block k hk⟩

/-! ### the iterator -/
abbrev tokV (x : Tok) : Value := .agg #[.int .i64 (x.kind : Int), .string (bs x.text), .int .i64 (x.pos : Int)]

/-- the tokens that Tokens visits -/
def seen (s : ByteArray) : List Tok := if 4000 < s.size then [] else (before s.data.toList).1

attribute [local go_sem] Oper.semAt_some

set_option maxHeartbeats 2000000 in
theorem tokens_in (n : Nat) (s : ByteArray) (w : World) :
    CallsIn Fence.wide n Try.prog 17 #[.string s] w fun e w' => e = .returned (.func (.func 26) #[] #[.pointer (some ⟨w.heap.size, 0, none⟩)]) ∧ w' = w.alloc (.cells #[.string s] 9) := by
  refine callsIn_of_wp Try.func17 rfl trivial ?_ rfl
  simp only [Try.ntmps17, List.size_toArray, List.length_cons, List.length_nil, Nat.reduceAdd, Nat.reduceSub, Array.replicate_succ, Array.replicate_zero, List.push_toArray, List.append_toArray, List.nil_append, List.cons_append]
  gi_wp2
  go_ret
  exact ⟨rfl, rfl⟩

set_option maxRecDepth 100000 in
set_option maxHeartbeats 2000000 in
theorem tok1_long (n : Nat) (l Bs : Nat) (s : ByteArray) (hs : 4000 < s.size) (hs2 : s.size ≤ 140737488351232) (J : List Tok → World → Prop) (W : World) (hBs : W.cell? ⟨Bs, 0, none⟩ = some (.string s)) (h0 : J [] W) :
    CallsIn Fence.wide n Try.prog 26 #[.func (.yield l) #[] #[], .pointer (some ⟨Bs, 0, none⟩)] W fun e W' => (∃ v, e = .returned v) ∧ J [] W' := by
  refine callsIn_of_wp Try.func26 rfl trivial ?_ rfl
  simp only [Try.ntmps26, List.size_toArray, List.length_cons, List.length_nil, Nat.reduceAdd, Nat.reduceSub, Array.replicate_succ, Array.replicate_zero, List.push_toArray, List.append_toArray, List.nil_append, List.cons_append]
  gi_wp2
  refine bodyPost_ret (results_none rfl _ _ _) rfl ?_
  exact ⟨⟨_, rfl⟩, h0⟩

theorem at_yield {Bs Bg : Nat} {wr w1 : World} {v : Value} {t : TypeId} (hB : Boxed wr Bs t v) (hBg : Bg < wr.heap.size) (h2 : ∀ r, gotRow Bg wr = some r → r < wr.heap.size) (hb : Below wr.heap.size wr w1) (o : Obj) :
    Boxed (w1.alloc o) Bs t v ∧ gotRow Bg (w1.alloc o) = gotRow Bg wr ∧ gotRow Bg (w1.alloc o) ≠ some w1.heap.size := by
  have hs := hb.size
  have e : gotRow Bg (w1.alloc o) = gotRow Bg wr := gotRow_of_block ((Below.heap_alloc w1 o Bg (by omega)).trans (hb.block Bg hBg))
  refine ⟨?_, e, ?_⟩
  · have := hB.lt
    exact ((Below.heap_alloc w1 o Bs (by omega)).trans (hb.block Bs hB.lt)).trans hB
  · rw [e]; intro h; have := h2 _ h; omega
theorem after_yield {Bs Bg : Nat} {wr W W' : World} {v : Value} {t : TypeId} (hB : Boxed W Bs t v) (hne : Bs ≠ Bg) (hBg : Bg < wr.heap.size) (h1 : gotRow Bg wr ≠ some Bs) (h2 : ∀ r, gotRow Bg wr = some r → r < wr.heap.size) (e : gotRow Bg W = gotRow Bg wr) (hs : wr.heap.size ≤ W.heap.size) (hk : KpT Bg W W') :
    Boxed W' Bs t v ∧ Bg < W'.heap.size ∧ gotRow Bg W' ≠ some Bs ∧ ∀ r, gotRow Bg W' = some r → r < W'.heap.size := by
  have hz := hk.size
  have hl := hB.lt
  refine ⟨hk.same Bs _ hB rfl hne (by rw [e]; exact h1), by omega, ?_, ?_⟩
  · rcases hk.row with g | ⟨r, g, g1, g2⟩
    · rw [g, e]; exact h1
    · rw [g]; intro h; injection h with h; omega
  · rcases hk.row with g | ⟨r, g, g1, g2⟩
    · rw [g, e]; intro r h; have := h2 r h; omega
    · rw [g]; intro r' h; injection h with h; omega
theorem roundOf {n l Bg N B : Nat} {J Jx : List Tok → World → Prop} {wr w1 : World} {x : Tok} {V : Value} {toks : List Tok}
    (hY : ∀ pre x W, J pre W → pre.length < N → YieldAt Fence.wide (n - 1) Try.prog l #[tokV x] W fun e W' =>
      (e = .returned (.bool true) ∧ J (pre ++ [x]) W' ∧ KpT Bg W W') ∨ (e = .returned (.bool false) ∧ Jx (pre ++ [x]) W'))
    (hJ : AbidesFrom B J) (hxv : tokV x = V) (hlen : toks.length < N) (hJs : J toks wr) (hb : Below wr.heap.size wr w1) (o : Obj) :
    YieldAt Fence.wide (n - 1) Try.prog l #[V] (w1.alloc o) fun e W' =>
      (e = .returned (.bool true) ∧ J (toks ++ [x]) W' ∧ KpT Bg (w1.alloc o) W') ∨ (e = .returned (.bool false) ∧ Jx (toks ++ [x]) W') := by
  rw [← hxv]
  exact hY toks x _ (hJ _ _ _ none (hJ _ _ _ none hJs (grownBy_below hb) (fun r e => by cases e)) (World.grownBy_alloc w1 o none) (fun r e => by cases e)) hlen
theorem lexRel_prefix {s : ByteArray} {i : Nat} {toks : List Tok} (h : LexRel s i toks) : toks <+: (before s.data.toList).1 := by
  unfold LexRel at h; rw [h]; exact List.prefix_append _ _

set_option maxRecDepth 100000 in
set_option maxHeartbeats 4000000 in
theorem tok1_in (n : Nat) (hn : 1 ≤ n) (l Bs Bg N : Nat) (s : ByteArray) (hs : s.size ≤ 4000) (J Jx : List Tok → World → Prop)
    (W : World) (hJ : AbidesFrom W.heap.size J)
    (hY : ∀ pre x W, J pre W → pre.length < N → YieldAt Fence.wide (n - 1) Try.prog l #[tokV x] W fun e W' =>
      (e = .returned (.bool true) ∧ J (pre ++ [x]) W' ∧ KpT Bg W W') ∨ (e = .returned (.bool false) ∧ Jx (pre ++ [x]) W'))
    (hN : N = (before s.data.toList).1.length)
    (hBs : Boxed W Bs 9 (.string s)) (hne : Bs ≠ Bg) (hBg : Bg < W.heap.size) (hrow : gotRow Bg W = none) (h0 : J [] W) :
    CallsIn Fence.wide n Try.prog 26 #[.func (.yield l) #[] #[], .pointer (some ⟨Bs, 0, none⟩)] W fun e W' => (∃ v, e = .returned v) ∧
      ((∃ ys, ys = (before s.data.toList).1 ∧ J ys W') ∨ (∃ pre, pre <+: (before s.data.toList).1 ∧ Jx pre W')) := by
  obtain ⟨k0, hk0⟩ : ∃ k, k = 0 + run bl (s.data.toList.drop 0) := ⟨_, rfl⟩
  have hk1 : k0 ≤ s.size := by rw [hk0, List.drop_zero]; have := run_le bl s.data.toList; rw [size_len] at this; omega
  obtain ⟨T, hT⟩ : ∃ T, T = (before s.data.toList).1 := ⟨_, rfl⟩
  rw [← hT] at hN ⊢
  have hL0 : LexRel s k0 [] := by rw [hk0]; exact lexRel_start s
  have HK := Lib.hid hk0
  have HT := Lib.hid hT
  have HL0 := Lib.hid hL0
  have HY := Lib.hid hY
  have HJ := Lib.hid hJ
  have HN := Lib.hid hN
  have cBs := hBs.cell
  clear hk0 hT hL0 hY hJ hN
  refine callsIn_of_wp Try.func26 rfl trivial ?_ rfl
  simp only [Try.ntmps26, List.size_toArray, List.length_cons, List.length_nil, Nat.reduceAdd, Nat.reduceSub, Array.replicate_succ, Array.replicate_zero, List.push_toArray, List.append_toArray, List.nil_append, List.cons_append]
  gi_wp2_with (refine ⟨trivial, ?_⟩; gi_at_call 24; refine (callsIn_wide.2 (skip_at s _ _ 0 k0 rfl (by omega) (by omega) HK.out)).mono ?_; rintro e w' ⟨rfl, rfl⟩)
  gi_loopw [3, 4, 5] (fun a v4 v5 wr => ∃ (i : Nat) (toks : List Tok), i ≤ s.size ∧ a = .int .i64 i ∧ J toks wr ∧ Hid (LexRel s i toks) ∧ Boxed wr Bs 9 (.string s) ∧ Bg < wr.heap.size ∧ Hid (gotRow Bg wr ≠ some Bs) ∧ Hid (∀ r, gotRow Bg wr = some r → r < wr.heap.size)) (fun a _ _ _ => s.size - (intOf a).toNat)
  case atStart => exact ⟨k0, [], hk1, rfl, h0, HL0, hBs, hBg, Lib.hid (by rw [hrow]; simp), Lib.hid (by rw [hrow]; simp)⟩
  case round =>
    obtain ⟨i, toks, hi, rfl, hJs, hrel, hB, hBg2, hr1, hr2⟩ := hrel
    have cB := hB.cell
    by_cases hlt : i < s.size
    · rcases next_at s (by omega) i hlt with ⟨kd, tx, h1, h2, h3, h4', h5⟩ | ⟨er, h1, h2, h3⟩
      · obtain ⟨j, hj⟩ : ∃ j, j = i + tx.size + run bl (s.data.toList.drop (i + tx.size)) := ⟨_, rfl⟩
        have hj1 : i < j ∧ j ≤ s.size := by
          have := run_le bl (s.data.toList.drop (i + tx.size)); rw [List.length_drop, size_len] at this; omega
        have HR := Lib.hid (lexRel_ok s i toks hlt kd tx.size h3 hrel.out)
        have HJj := Lib.hid hj
        have H3 := Lib.hid h3
        have H4 := Lib.hid h4'
        have H5 := Lib.hid h5
        clear h3 h4' h5 hj
        obtain ⟨x, hx⟩ : ∃ x : Tok, x = ⟨kd, (s.data.toList.drop i).take tx.size, i⟩ := ⟨_, rfl⟩
        have hxv : tokV x = .agg #[.int .i64 (kd : Int), .string tx, .int .i64 (i : Int)] := by subst hx; unfold tokV; rw [← H4.out]
        have HX := Lib.hid hx
        have HXV := Lib.hid hxv
        rw [← hx] at HR
        clear hx hxv
        have hlen : toks.length < N := by
          have := (lexRel_prefix HR.out).length_le
          rw [← HT.out, ← HN.out, List.length_append, List.length_cons, List.length_nil] at this
          omega
        gi_wp2_with (refine ⟨trivial, ?_⟩; gi_at_call 25; refine (callsIn_wide.2 (H5.out _)).mono ?_; rintro e w1 ⟨rfl, hb1⟩; have cB1 := (hb1.cell (p := ⟨Bs, 0, none⟩) hB.lt).trans cB; obtain ⟨fn, tmps, assign, body, hy, hR⟩ := roundOf (n := n) HY.out HJ.out HXV.out hlen hJs hb1 (.cells #[.int .i64 (kd : Int), .string tx, .int .i64 (i : Int)] 30))
        refine hR.mono ?_
        obtain ⟨hBW, hgW, hnW⟩ := at_yield hB hBg2 hr2.out hb1 (.cells #[.int .i64 (kd : Int), .string tx, .int .i64 (i : Int)] 30)
        have hT4 : (w1.alloc (.cells #[.int .i64 (kd : Int), .string tx, .int .i64 (i : Int)] 30)).heap[w1.heap.size]? = some (.cells #[.int .i64 (kd : Int), .string tx, .int .i64 (i : Int)] 30) := World.alloc_heap_new _ _
        have hsz1 := hb1.size
        rintro e W3 (⟨rfl, hJ3, hk3⟩ | ⟨rfl, hJx3⟩)
        · have hT5 := hk3.same _ _ hT4 rfl (by omega) hnW
          obtain ⟨hB3, hBg3, hr13, hr23⟩ := after_yield hBW hne hBg2 hr1.out hr2.out hgW (by simp; omega) hk3
          have cB3 := hB3.cell
          have cT3 : W3.cell? ⟨w1.heap.size, 1, none⟩ = some (.string tx) := by simp [World.cell?, hT5]
          have HB3 := Lib.hid hB3
          have Hr1 := Lib.hid hr13
          have Hr2 := Lib.hid hr23
          clear hr13 hr23 hk3 hT4 hT5 hnW hgW hy hR
          gi_wp2_with (refine ⟨trivial, ?_⟩; gi_at_call 24; refine (callsIn_wide.2 (skip_at s _ _ (i + tx.size) j (by omega) (by omega) (by omega) HJj.out)).mono ?_; rintro e w' ⟨rfl, rfl⟩)
          go_roundw
          case rel => exact ⟨j, toks ++ [x], by omega, rfl, hJ3, Lib.hid (by rw [HJj.out]; exact HR.out), HB3.out, hBg3, Hr1, Hr2⟩
          case measure => simp [intOf]; omega
        · gi_wp2
          refine bodyPost_ret (results_none rfl _ _ _) rfl ?_
          exact ⟨⟨_, rfl⟩, .inr ⟨_, by rw [HT.out]; exact lexRel_prefix HR.out, hJx3⟩⟩
      · have H2 := Lib.hid h2
        have H3 := Lib.hid h3
        have HB := Lib.hid (lexRel_err s i toks hlt er h1 h2 hrel.out)
        have hne' : (((er : Nat) : Int) != 0) = true := by simp; omega
        clear h2 h3 h1
        gi_wp2_with (refine ⟨trivial, ?_⟩; gi_at_call 25; refine (callsIn_wide.2 (H3.out _)).mono ?_; rintro e w1 ⟨rfl, hb1⟩)
        refine ⟨fun _ h => (by cases h), ?_⟩
        gi_wp2
        refine bodyPost_ret (results_none rfl _ _ _) rfl ?_
        refine ⟨⟨_, rfl⟩, .inl ⟨toks, by rw [HT.out, HB.out], ?_⟩⟩
        exact HJ.out _ _ _ none (HJ.out _ _ _ none hJs (grownBy_below hb1) (fun r e => by cases e)) (World.grownBy_alloc w1 _ none) (fun r e => by cases e)
    · have HB := Lib.hid (lexRel_end s i toks (by omega) hrel.out)
      gi_wp2
      go_end0
      exact ⟨⟨_, rfl⟩, .inl ⟨toks, by rw [HT.out, HB.out], hJs⟩⟩

theorem tokens_stops (n : Nat) (hn : 1 ≤ n) (Bs Bg : Nat) (s : ByteArray) (hs2 : s.size ≤ 140737488351232) (w : World) (hBs : Boxed w Bs 9 (.string s)) (hne : Bs ≠ Bg) (hBg : Bg < w.heap.size) (hrow : gotRow Bg w = none) :
    SeqStopsK Fence.wide n Try.prog 26 #[.pointer (some ⟨Bs, 0, none⟩)] (fun x : Tok => #[tokV x]) (KpT Bg) (fun ys => ys = seen s) (fun pre => pre <+: seen s) (seen s).length w := fun l J Jx W hW hJ hJx hY h0 => by
  have hbl := hW.block Bs hBs.lt
  have hBs' : Boxed W Bs 9 (.string s) := hbl.trans hBs
  by_cases h4 : 4000 < s.size
  · have e : seen s = [] := if_pos h4
    rw [e]
    exact (tok1_long n l Bs s h4 hs2 J W hBs'.cell h0).mono fun e W' ⟨he, hj⟩ => ⟨he, .inl ⟨_, rfl, hj⟩⟩
  · have e : seen s = (before s.data.toList).1 := if_neg h4
    rw [e] at hY ⊢
    exact tok1_in n hn l Bs Bg _ s (by omega) J Jx W hJ hY rfl hBs' hne (by have := hW.size; omega) (by rw [gotRow_of_block (hW.block Bg hBg)]; exact hrow) h0

theorem KpT.appended {Bg : Nat} {W w2 : World} {v v' : Value} {t : TypeId} {tmp : Obj} (hv : Boxed W Bg t v) (hgrow : (W.alloc tmp).grownBy w2 v.ownBlock) (hset : Boxed (w2.setCell ⟨Bg, 0, none⟩ v') Bg t v')
    (hwhere : v'.ownBlock = v.ownBlock ∨ (v'.ownBlock = some (W.alloc tmp).heap.size ∧ (W.alloc tmp).heap.size < w2.heap.size)) : KpT Bg W (w2.setCell ⟨Bg, 0, none⟩ v') := by
  have e1 : gotRow Bg W = v.ownBlock := by unfold gotRow; rw [hv.cell]; rfl
  have e2 : gotRow Bg (w2.setCell ⟨Bg, 0, none⟩ v') = v'.ownBlock := by unfold gotRow; rw [hset.cell]; rfl
  have hs := hgrow.size
  have hz : (w2.setCell ⟨Bg, 0, none⟩ v').heap.size = w2.heap.size := by simp
  have ha : (W.alloc tmp).heap.size = W.heap.size + 1 := by simp
  refine ⟨by omega, fun k o hk ho hne hr => ?_, ?_⟩
  · have hlt := (Array.getElem?_eq_some_iff.1 hk).1
    rw [Below.heap_setCell _ _ _ k hne, hgrow.block k (by omega) (by rw [← e1]; exact fun h => hr h.symm), Below.heap_alloc W tmp k hlt]
    exact hk
  · rcases hwhere with h | ⟨h, h2⟩
    · exact .inl (by rw [e2, h, e1])
    · exact .inr ⟨_, by rw [e2]; exact h, by omega, by omega⟩
theorem cells_own {β : Type} (B : Nat) (c : Array Value) (t : TypeId) (p : β → Prop) : Own (fun (s : β) W => W.heap[B]? = some (.cells c t (0, 0)) ∧ p s) := fun s X Y row hs hg hrow => by
  refine ⟨(hg.block B (Array.getElem?_eq_some_iff.1 hs.1).1 (fun e' => ?_)).trans hs.1, hs.2⟩
  obtain ⟨o, ho, hc⟩ := hrow B e'.symm
  rw [hs.1] at ho; cases ho; cases hc

theorem Sl.take {w : World} {B size n m c : Nat} {A : Option Addr} {xs : List Value} (h : Sl w B size (.slice A n c) n xs) (hm : m ≤ n) : Sl w B size (.slice A m c) m (xs.take (m * size)) := by
  obtain ⟨A', c', e, hc, hl, hn⟩ := h
  injection e with e1 e2 e3
  subst e1; subst e3
  refine ⟨A, c, rfl, by omega, ?_, fun h0 => ?_⟩
  · rw [List.length_take, hl]; exact Nat.min_eq_left (Nat.mul_le_mul_right _ hm)
  · obtain ⟨b, o, rfl, hb, hx⟩ := hn (by omega)
    refine ⟨b, o, rfl, hb, fun j u hj => hx j u ?_⟩
    rw [List.getElem?_take] at hj
    split at hj
    · exact hj
    · cases hj
theorem tokCells_take (l : List Tok) (m : Nat) : tokCells (l.take m) = (tokCells l).take (m * 3) := by
  induction l generalizing m with
  | nil => simp [tokCells]
  | cons t l ih =>
    cases m with
    | zero => simp [tokCells]
    | succ m =>
      have e : tokCells (t :: l) = tokC t ++ tokCells l := by simp [tokCells]
      have e2 : tokCells (t :: l.take m) = tokC t ++ tokCells (l.take m) := by simp [tokCells]
      have hl : (tokC t).length = 3 := by simp [tokC]
      rw [List.take_succ_cons, e, e2, ih, Nat.succ_mul, Nat.add_comm (m * 3) 3, ← hl, List.take_length_add_append, hl]

end Go.Proofs.Ytnfbmclaenodaaa
