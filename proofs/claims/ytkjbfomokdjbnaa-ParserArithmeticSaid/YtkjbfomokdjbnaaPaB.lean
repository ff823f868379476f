/-
  The parser: open, name, relation, asFormula, large, measure, verdict.
-/
import Derived.Test.YtkjbfomokdjbnaaPaA
import Derived.Test.YtkjbfomokdjbnaaTa
namespace Go.Proofs.Ytkjbfomokdjbnaa
open Go.RowKit
set_option linter.unusedSimpArgs false
set_option linter.unusedVariables false
namespace Pa
open Lx Fm Dc
theorem fieldTok0 (x0 x1 x2 : Value) (w : World) : (Instr.field tTok (.agg #[x0, x1, x2]) 0).run Try.prog w = .ok x0 w := by kernel_rfl
theorem fieldTok2 (x0 x1 x2 : Value) (w : World) : (Instr.field tTok (.agg #[x0, x1, x2]) 2).run Try.prog w = .ok x2 w := by kernel_rfl
attribute [local go_sem] run_store fieldTok0 fieldTok2
/-- the counters are behind the tokens -/
def Gd (s : PS) : Prop := s.depth ≤ s.next ∧ s.rels ≤ s.next ∧ s.names.length ≤ s.next
theorem exc_eq (s : PS) (p : Nat) : (exc s p).next = s.next ∧ (exc s p).depth = s.depth ∧ (exc s p).rels = s.rels ∧ (exc s p).names = s.names := ⟨exc_next s p, exc_depth s p, exc_rels s p, exc_names s p⟩

set_option maxRecDepth 100000 in
set_option maxHeartbeats 2000000 in
theorem open_any (B pb mb n c : Nat) (T : List Tok) (A : Option Addr) (s : PS) (w : World) (h : PAt B pb mb T A n c s w) (hg : Gd s) (hlt : s.next < n) :
    Calls Try.prog 52 #[.pointer (some ⟨pb, 0, none⟩)] w fun e w' => e = .returned (.tuple #[]) ∧ PAt B pb mb T A n c (opn T s) w' ∧ Owns w w' (Fp pb mb) (Fp pb mb) := by
  have hlen := h.len
  have hd := hg.1
  obtain ⟨s1, hs1⟩ : ∃ s1, s1 = { s with depth := s.depth + 1 } := ⟨_, rfl⟩
  have h1 : PAt B pb mb T A n c s1 (w.setCell ⟨pb, 2, none⟩ (.int .i64 ((s.depth : Int) + 1))) := h.set (s' := s1) 2 _ (by rw [hs1]; rfl) (by rw [hs1]) (by rw [hs1]; exact h.next) (by rw [hs1]; show s.depth + 1 ≤ s.next + 1; omega) (by rw [hs1]; exact h.rels) (by rw [hs1]; exact h.nms)
  obtain ⟨W, hW⟩ : ∃ W, w.setCell ⟨pb, 2, none⟩ (.int .i64 ((s.depth : Int) + 1)) = W := ⟨_, rfl⟩
  rw [hW] at h1
  obtain ⟨c0, c1, c2, c3, c4, c5, c6⟩ := h.cells
  have f0 := h.fz
  obtain ⟨d0, d1, d2, d3, d4, d5, d6⟩ := h1.cells
  have f1 := h1.fz
  have e1 : s1.next = s.next := by rw [hs1]
  have e2 : s1.depth = s.depth + 1 := by rw [hs1]
  have epk : pk T s1 = pk T s := by rw [hs1]; rfl
  have HO := Lib.hid (show Owns w W (Fp pb mb) (Fp pb mb) by rw [← hW]; exact owns_set _ _ _ (.inl rfl))
  rw [e2] at d2
  rw [e1] at d1
  by_cases h60 : 60 < s.depth + 1
  · have HI := Lib.hid (show opn T s = adv (exc s1 (pk T s).pos) by unfold opn inc; rw [if_pos h60, hs1])
    have HK := Lib.hid (peek_any B pb mb n c T A s1 W h1)
    rw [epk] at HK
    have H1 := Lib.hid h1
    have HE1 := Lib.hid e1
    clear h h1 hs1 e1 e2 epk hg
    go_enter Try.func52, Try.ntmps52
    go_wp2_with fail
    refine HK.out.mono ?_
    rintro e w2 ⟨rfl, hb2⟩
    have HX := Lib.hid (exceed_any B pb mb n c T A s1 (pk T s).pos w2 (H1.out.below hb2))
    have HO2 := Lib.hid (HO.out.trans (Owns.of_below hb2 _))
    clear hb2
    go_wp2_with fail
    refine HX.out.mono ?_
    rintro e w3 ⟨rfl, h3, ho3⟩
    obtain ⟨g0, g1, g2, g3, g4, g5, g6⟩ := h3.cells
    have f3 := h3.fz
    rw [exc_next, HE1.out] at g1
    have H3 := Lib.hid h3
    have HO3 := Lib.hid (HO2.out.trans ho3)
    clear h3 ho3 hW
    go_wp2
    go_end0
    refine ⟨rfl, ?_, HO3.out.trans (owns_set _ _ _ (.inl rfl))⟩
    rw [HI.out]
    have h5 := H3.out.advs (by rw [exc_next, HE1.out]; exact hlt)
    rw [exc_next, HE1.out] at h5
    exact h5
  · have HI := Lib.hid (show opn T s = adv s1 by unfold opn inc; rw [if_neg h60, hs1])
    have h60' : s.depth + 1 ≤ 60 := by omega
    have H1 := Lib.hid h1
    have HE1 := Lib.hid e1
    clear h h1 hs1 e1 e2 epk hg h60
    go_enter Try.func52, Try.ntmps52
    go_wp2_with fail
    clear hW
    go_end0
    refine ⟨rfl, ?_, HO.out.trans (owns_set _ _ _ (.inl rfl))⟩
    rw [HI.out]
    have h5 := H1.out.advs (by rw [HE1.out]; exact hlt)
    rw [HE1.out] at h5
    exact h5

/-! ### name -/
theorem MapB.runLook' {w : World} {b n : Nat} {L : List ByteArray} (hown : MapB w b n L) (s : ByteArray) (hs : s.size ≤ 9223372036854775807) (x : Bool) (hx : x = decide (s ∈ L)) : Sem.run Try.prog (Instr.lookup tMB (.map (some b)) (.string s) false) w = .ok (.bool x) w := by
  obtain ⟨D, h1, h2, _⟩ := hown
  obtain ⟨v, ps, hrun, hv⟩ := h1.lookup strLaw Try.underlying72 (zeroB w) (plainElem_bool Try.underlying4 false) (keyS hs)
  rw [h2] at hv
  obtain ⟨c, rfl, hc⟩ := plainElem_bool_inv Try.underlying4 hv
  simp only [Prod.mk.injEq, DataW.lit.injEq, Lit.bool.injEq] at hc
  rw [hrun, ← hc.1, hx]
theorem MapB.run' {w : World} {b n : Nat} {L : List ByteArray} (hown : MapB w b n L) (hn : n < 1000000) (s : ByteArray) (hs : s.size ≤ 9223372036854775807) : ∃ w', Sem.run Try.prog (Instr.mapUpdate tMB (.map (some b)) (.string s) (.bool true)) w = .ok () w' ∧ MapB w' b (n + 1) (addN L s) ∧ w.grownBy w' (some b) := by
  obtain ⟨D, h1, h2, h3, h4⟩ := hown
  obtain ⟨w', hr, h5, h6⟩ := h1.update strLaw Try.underlying72 (by unfold maxLen; omega) (keyS hs) (plainElem_bool Try.underlying4 true)
  exact ⟨w', hr, MapB.put (w := w) h2 h3 h4 h1.isMap (h1.tidy strLaw) s h5, h6⟩
theorem MapB.runLen' {w : World} {b n : Nat} {L : List ByteArray} (hown : MapB w b n L) (Z : Nat) (hZ : Z = L.length) : Sem.run Try.prog (Builtin.len_ #[tMB] tI #[.map (some b)]) w = .ok (.int .i64 (Z : Int)) w := by
  obtain ⟨D, h1, h2, h3, h4⟩ := hown
  have h := h1.len Try.underlying72 tI
  rw [h4] at h
  rw [hZ]
  exact h
theorem PAt.drewN {B pb mb n c : Nat} {T : List Tok} {A : Option Addr} {s : PS} {w : World} (h : PAt B pb mb T A n c s w) (k : Nat) : PAt B pb mb T A n c s (w.drewN k) :=
  { h with box := h.box, map := h.map, toks := h.toks.drewN k }
theorem PAt.drew {B pb mb n c : Nat} {T : List Tok} {A : Option Addr} {s : PS} {w : World} (h : PAt B pb mb T A n c s w) : PAt B pb mb T A n c s w.drew := { h with box := h.box, map := h.map, toks := h.toks.drew }
theorem owns_drew {w w' : World} {F : Nat → Prop} (h : Owns w w' F F) : Owns w w'.drew F F := ⟨h.os, h.tape, h.output, h.size, h.same, h.foot⟩
/-- the map has got a name more -/
theorem PAt.put {B pb mb n c : Nat} {T : List Tok} {A : Option Addr} {s s' : PS} {w w' : World} (h : PAt B pb mb T A n c s w) (hm : MapB w' mb s'.names.length s'.names) (hg : w.grownBy w' (some mb)) (h1 : s'.next = s.next) (h2 : s'.depth = s.depth) (h3 : s'.rels = s.rels) (h4 : s'.names.length ≤ s'.next + 1) (h5 : s'.over = s.over) (h6 : s'.off = s.off) : PAt B pb mb T A n c s' w' :=
  { ne := h.ne, bp := h.bp, bm := h.bm, hn := h.hn, len := h.len, next := by rw [h1]; exact h.next, depth := by rw [h1, h2]; exact h.depth, rels := by rw [h1, h3]; exact h.rels, nms := h4, small := h.small
    box := by rw [h1, h2, h3, h5, h6, hg.block pb h.lt (fun e => h.ne (Option.some.inj e))]; exact h.box
    map := hm
    toks := h.toks.grown hg (Nat.le_trans h.bp (Nat.le_of_lt h.lt)) (fun g hg => by injection hg with hg; rw [← hg]; exact h.bm) }
theorem owns_grow {pb mb : Nat} {w w' : World} (hg : w.grownBy w' (some mb)) : Owns w w' (Fp pb mb) (Fp pb mb) :=
  ⟨hg.os, hg.tape, hg.output, hg.size, fun k hk hF => hg.block k hk (fun e => hF (.inr (Option.some.inj e))), fun _ h => .inl h⟩
theorem owns_drewN {F : Nat → Prop} (w : World) (k : Nat) : Owns w (w.drewN k) F F := ⟨rfl, rfl, rfl, Nat.le_refl _, fun _ _ _ => rfl, fun _ h => .inl h⟩

set_option maxRecDepth 100000 in
set_option maxHeartbeats 4000000 in
theorem name_any (B pb mb n c : Nat) (T : List Tok) (A : Option Addr) (s : PS) (w : World) (h : PAt B pb mb T A n c s w) (hg : s.names.length ≤ s.next) (hlt : s.next < n) (hsz : (pk T s).text.length ≤ 4000) :
    Calls Try.prog 66 #[.pointer (some ⟨pb, 0, none⟩)] w fun e w' => e = .returned (.string (bs (pk T s).text)) ∧ PAt B pb mb T A n c (nam T s) w' ∧ Owns w w' (Fp pb mb) (Fp pb mb) := by
  have HK := Lib.hid (peek_any B pb mb n c T A s w h)
  obtain ⟨t, ht⟩ : ∃ t, t = pk T s := ⟨_, rfl⟩
  obtain ⟨y, hy⟩ : ∃ y, y = bs t.text := ⟨_, rfl⟩
  have hys : y.size ≤ 9223372036854775807 := by rw [hy, bs_size, ht]; omega
  rw [← ht] at HK hsz ⊢
  rw [← hy] at HK ⊢
  have HH := Lib.hid h
  have hg0 := hg
  have hlen := h.len
  have HT := Lib.hid ht
  have HY := Lib.hid hy
  clear h hg ht hsz hy
  by_cases hin : y ∈ s.names
  · have HI := Lib.hid (show nam T s = adv s by unfold nam nm1; rw [← HT.out, ← HY.out, if_pos hin])
    have HZ := Lib.hid (show true = decide (y ∈ s.names) by simp [hin])
    clear hin
    go_enter Try.func66, Try.ntmps66
    go_wp2_with fail
    refine HK.out.mono ?_
    rintro e w1 ⟨rfl, hb1⟩
    have hbel : Below w1.heap.size w1 (w1.alloc (.cells #[.int .i64 t.kind, .string y, .int .i64 t.pos] tTok)) := (Below.refl _ _).alloc (Nat.le_refl _) _
    have hx := Box.new w1 #[.int .i64 t.kind, .string y, .int .i64 t.pos] tTok
    have h2 := (HH.out.below hb1).below hbel
    have HO := Lib.hid ((Owns.of_below hb1 (Fp pb mb)).trans (Owns.of_below hbel _))
    obtain ⟨W, hW⟩ : ∃ W, w1.alloc (.cells #[.int .i64 t.kind, .string y, .int .i64 t.pos] tTok) = W := ⟨_, rfl⟩
    rw [hW] at h2 HO hx
    obtain ⟨c0, c1, c2, c3, c4, c5, c6⟩ := h2.cells
    have f1 := h2.fz
    have x0 : W.cell? ⟨w1.heap.size, 0, none⟩ = some (.int .i64 t.kind) := hx.cell 0
    have x1 : W.cell? ⟨w1.heap.size, 1, none⟩ = some (.string y) := hx.cell 1
    have x2 : W.cell? ⟨w1.heap.size, 2, none⟩ = some (.int .i64 t.pos) := hx.cell 2
    have hne : w1.heap.size ≠ pb := fun e => by have := (HH.out.below hb1).lt; omega
    have HP := Lib.hid (show ∀ k, PAt B pb mb T A n c (adv s) ((W.drewN k).setCell ⟨pb, 1, none⟩ (.int .i64 ((s.next : Int) + 1))) from fun k => (h2.drewN k).advs hlt)
    have hlook : ∀ k, Sem.run Try.prog (Instr.lookup tMB (.map (some mb)) (.string y) false) (W.drewN k) = .ok (.bool true) (W.drewN k) := fun k => MapB.runLook' (h2.drewN k).map y hys true HZ.out
    have hlook0 : Sem.run Try.prog (Instr.lookup tMB (.map (some mb)) (.string y) false) W.drew = .ok (.bool true) W.drew := MapB.runLook' (w := W.drew) h2.map y hys true HZ.out
    clear hb1 hbel h2 hx
    go_wp2_with fail
    go_region
    go_wp2
    go_ret
    refine ⟨rfl, ?_, owns_drew (HO.out.trans (owns_set _ ⟨pb, 1, none⟩ _ (.inl rfl)))⟩
    rw [HI.out]
    exact (HP.out 0).drew
  · obtain ⟨s1, hs1⟩ : ∃ s1, s1 = { s with names := s.names ++ [y] } := ⟨_, rfl⟩
    have hadd : addN s.names y = s1.names := by unfold addN; rw [if_neg hin, hs1]
    have hnl : s1.names.length = s.names.length + 1 := by rw [hs1]; simp
    have e1 : s1.next = s.next := by rw [hs1]
    have HI := Lib.hid (show nam T s = adv (if 4 < s.names.length + 1 then exc s1 t.pos else s1) by unfold nam nm1; rw [← HT.out, ← HY.out, if_neg hin, hs1])
    have HZ := Lib.hid (show false = decide (y ∈ s.names) by simp [hin])
    have HADD := Lib.hid hadd
    have HNL := Lib.hid hnl
    have HE1 := Lib.hid e1
    have HS1 := Lib.hid hs1
    have hgn := hg0
    clear hin hadd hnl e1 hs1
    go_enter Try.func66, Try.ntmps66
    go_wp2_with fail
    refine HK.out.mono ?_
    rintro e w1 ⟨rfl, hb1⟩
    have hbel : Below w1.heap.size w1 (w1.alloc (.cells #[.int .i64 t.kind, .string y, .int .i64 t.pos] tTok)) := (Below.refl _ _).alloc (Nat.le_refl _) _
    have hx := Box.new w1 #[.int .i64 t.kind, .string y, .int .i64 t.pos] tTok
    have h2 := (HH.out.below hb1).below hbel
    have HO := Lib.hid ((Owns.of_below hb1 (Fp pb mb)).trans (Owns.of_below hbel _))
    obtain ⟨W, hW⟩ : ∃ W, w1.alloc (.cells #[.int .i64 t.kind, .string y, .int .i64 t.pos] tTok) = W := ⟨_, rfl⟩
    rw [hW] at h2 HO hx
    obtain ⟨c0, c1, c2, c3, c4, c5, c6⟩ := h2.cells
    have f1 := h2.fz
    have x0 : W.cell? ⟨w1.heap.size, 0, none⟩ = some (.int .i64 t.kind) := hx.cell 0
    have x1 : W.cell? ⟨w1.heap.size, 1, none⟩ = some (.string y) := hx.cell 1
    have x2 : W.cell? ⟨w1.heap.size, 2, none⟩ = some (.int .i64 t.pos) := hx.cell 2
    have hne : w1.heap.size ≠ pb := fun e => by have := (HH.out.below hb1).lt; omega
    have HB1 := Lib.hid hb1
    obtain ⟨b0, b1, b2, b3, b4, b5, b6⟩ := h2.drew.cells
    have fb := h2.drew.fz
    have hlook0 : Sem.run Try.prog (Instr.lookup tMB (.map (some mb)) (.string y) false) W.drew = .ok (.bool false) W.drew := MapB.runLook' (w := W.drew) h2.map y hys false HZ.out
    have H2 := Lib.hid h2.drew
    have HX := Lib.hid (show Box w1 W.drew w1.heap.size #[.int .i64 t.kind, .string y, .int .i64 t.pos] tTok from hx.drewN 1)
    clear hb1 hbel h2 hx
    go_wp2_with fail
    go_region
    obtain ⟨W2, hW2⟩ : ∃ W2, W2 = W.drew := ⟨_, rfl⟩
    rw [← hW2] at H2 HX b0 b1 b2 b3 b4 b5 b6 fb
    rw [← hW2]
    have HO2 := Lib.hid (show Owns w W2 (Fp pb mb) (Fp pb mb) by rw [hW2]; exact owns_drew HO.out)
    clear hW2 c0 c1 c2 c3 c4 c5 c6 f1 x0 x1 x2 hlook0 hW
    have x1 : W2.cell? ⟨w1.heap.size, 1, none⟩ = some (.string y) := HX.out.cell 1
    have hmb : mb < w1.heap.size := (HH.out.below HB1.out).map.lt
    obtain ⟨w3, hrun3, hm3, hg3⟩ := MapB.run' (w := W2.drew) H2.out.map (by omega) y hys
    rw [HADD.out] at hm3
    have h3 : PAt B pb mb T A n c s1 w3 := H2.out.drew.put (by rw [HNL.out]; exact hm3) hg3 HE1.out (by rw [HS1.out]) (by rw [HS1.out]) (by rw [HNL.out, HE1.out]; omega) (by rw [HS1.out]) (by rw [HS1.out])
    have hbx3 : w3.heap[w1.heap.size]? = some (.cells #[.int .i64 t.kind, .string y, .int .i64 t.pos] tTok (0, 0)) := (hg3.block w1.heap.size HX.out.lt (fun e => by have := Option.some.inj e; omega)).trans HX.out.cells
    have z1 : w3.cell? ⟨w1.heap.size, 1, none⟩ = some (.string y) := by simp [World.cell?, hbx3]
    have z2 : w3.cell? ⟨w1.heap.size, 2, none⟩ = some (.int .i64 t.pos) := by simp [World.cell?, hbx3]
    obtain ⟨d0, d1, d2, d3, d4, d5, d6⟩ := h3.cells
    have f3 := h3.fz
    obtain ⟨Z, hZ⟩ : ∃ Z, Z = s.names.length + 1 := ⟨_, rfl⟩
    have hlen3 := MapB.runLen' h3.map Z (by rw [HNL.out, hZ])
    rw [HE1.out] at d1
    rw [← hZ] at HI
    have HO3 := Lib.hid (HO2.out.trans ((owns_drew (Owns.refl W2 _)).trans (owns_grow hg3)))
    have hw1l : w1.heap.size < w3.heap.size := (Array.getElem?_eq_some_iff.1 hbx3).1
    have HF := Lib.hid (show ¬ Fp pb mb w1.heap.size by rintro (e | e) <;> omega)
    have H3 := Lib.hid h3
    clear hm3 hg3 h3 hbx3 hZ hmb hgn
    by_cases h4 : 4 < Z
    · have HQ := Lib.hid (show nam T s = adv (exc s1 t.pos) by rw [HI.out, if_pos h4])
      have HXC := Lib.hid (exceed_any B pb mb n c T A s1 t.pos w3 H3.out)
      go_wp2_with fail
      go_region
      go_wp2_with fail
      refine HXC.out.mono ?_
      rintro e w4 ⟨rfl, h4', ho4⟩
      obtain ⟨g0, g1, g2, g3, g4, g5, g6⟩ := h4'.cells
      have f4 := h4'.fz
      rw [exc_next, HE1.out] at g1
      have q1 : w4.cell? ⟨w1.heap.size, 1, none⟩ = some (.string y) := (ho4.cell (p := ⟨w1.heap.size, 1, none⟩) hw1l HF.out).trans z1
      have H4 := Lib.hid h4'
      have HO4 := Lib.hid (HO3.out.trans ho4)
      clear h4' ho4
      go_wp2
      go_ret
      refine ⟨rfl, ?_, HO4.out.trans (owns_set _ ⟨pb, 1, none⟩ _ (.inl rfl))⟩
      rw [HQ.out]
      have h5 := H4.out.advs (by rw [exc_next, HE1.out]; exact hlt)
      rw [exc_next, HE1.out] at h5
      exact h5
    · have HQ := Lib.hid (show nam T s = adv s1 by rw [HI.out, if_neg h4])
      have h4' : Z ≤ 4 := by omega
      clear h4
      go_wp2_with fail
      go_region
      go_wp2
      go_ret
      refine ⟨rfl, ?_, HO3.out.trans (owns_set _ ⟨pb, 1, none⟩ _ (.inl rfl))⟩
      rw [HQ.out]
      have h5 := H3.out.advs (by rw [HE1.out]; exact hlt)
      rw [HE1.out] at h5
      exact h5
end Pa
end Go.Proofs.Ytkjbfomokdjbnaa
