/-
  The parser's state in memory; peek, sees, accept, exceed, open.
-/
import Derived.Test.YtkjbfomokdjbnaaPaP
import Derived.Test.YtkjbfomokdjbnaaLxC
import Derived.Test.YtkjbfomokdjbnaaFmU
import Derived.Deep.QuietTactic
import Derived.BigQuiet
import Derived.RegionTactic
import Derived.BigRegion
namespace Go.Proofs.Ytkjbfomokdjbnaa
open Go.RowKit
set_option linter.unusedSimpArgs false
set_option linter.unusedVariables false
namespace Pa
open Lx Fm Dc
attribute [local go_sem] run_store
abbrev tPa : TypeId := 74
abbrev tTok : TypeId := 101
/-- the blocks that a parse writes into: the parser's box, its map -/
abbrev Fp (pb mb : Nat) : Nat → Prop := fun k => k = pb ∨ k = mb
/-- everything else -/
abbrev Gp (pb mb : Nat) (w : World) : Nat → Prop := fun k => k < w.heap.size ∧ ¬ Fp pb mb k
/-- the parser with its tokens -/
structure PAt (B pb mb : Nat) (T : List Tok) (A : Option Addr) (n c : Nat) (s : PS) (w : World) : Prop where
  ne : pb ≠ mb
  bp : B ≤ pb
  bm : B ≤ mb
  hn : n = T.length
  len : n ≤ 4000
  next : s.next ≤ n
  depth : s.depth ≤ s.next + 1
  rels : s.rels ≤ s.next + 1
  nms : s.names.length ≤ s.next + 1
  box : w.heap[pb]? = some (.cells #[.slice A n c, .int .i64 s.next, .int .i64 s.depth, .int .i64 s.rels, .map (some mb), .bool s.over, .int .i64 s.off] tPa (0, 0))
  map : MapB w mb s.names.length s.names
  toks : Sl w B 3 (.slice A n c) n (tokCells T)
  small : ∀ t ∈ T, t.pos ≤ 4000
section
variable {B pb mb n c : Nat} {T : List Tok} {A : Option Addr} {s : PS} {w w' : World}
theorem PAt.lt (h : PAt B pb mb T A n c s w) : pb < w.heap.size := (Array.getElem?_eq_some_iff.1 h.box).1
theorem PAt.cells (h : PAt B pb mb T A n c s w) : w.cell? ⟨pb, 0, none⟩ = some (.slice A n c) ∧ w.cell? ⟨pb, 1, none⟩ = some (.int .i64 s.next) ∧ w.cell? ⟨pb, 2, none⟩ = some (.int .i64 s.depth) ∧ w.cell? ⟨pb, 3, none⟩ = some (.int .i64 s.rels) ∧ w.cell? ⟨pb, 4, none⟩ = some (.map (some mb)) ∧ w.cell? ⟨pb, 5, none⟩ = some (.bool s.over) ∧ w.cell? ⟨pb, 6, none⟩ = some (.int .i64 s.off) := by
  have g : ∀ j, w.cell? ⟨pb, j, none⟩ = #[Value.slice A n c, .int .i64 s.next, .int .i64 s.depth, .int .i64 s.rels, .map (some mb), .bool s.over, .int .i64 s.off][j]? := fun j => by simp [World.cell?, h.box]
  exact ⟨g 0, g 1, g 2, g 3, g 4, g 5, g 6⟩
theorem PAt.fz (h : PAt B pb mb T A n c s w) : ∀ j, w.frozen? ⟨pb, j, none⟩ = false := fun j => by simp [World.frozen?, h.box]
/-- what is made behind leaves the parser alone -/
theorem PAt.below (h : PAt B pb mb T A n c s w) (hb : Below w.heap.size w w') : PAt B pb mb T A n c s w' :=
  { h with box := (hb.block pb h.lt).trans h.box, map := h.map.keep (hb.block mb h.map.lt), toks := h.toks.keep (fun p hp => hb.cell (Nat.lt_of_lt_of_le hp (Nat.le_trans h.bp (Nat.le_of_lt h.lt)))) }
theorem PAt.tok (h : PAt B pb mb T A n c s w) (i : Nat) (hi : i < n) : ∃ t b o, T[i]? = some t ∧ A = some ⟨b, o, none⟩ ∧ b < B ∧ w.cell? ⟨b, o + i * 3, none⟩ = some (.int .i64 t.kind) ∧ w.cell? ⟨b, o + i * 3 + 1, none⟩ = some (.string (bs t.text)) ∧ w.cell? ⟨b, o + i * 3 + 2, none⟩ = some (.int .i64 t.pos) := by
  obtain ⟨b, o, e, hb, hc⟩ := h.toks.at_ (by omega)
  have hT : ∀ (l : List Tok) (i : Nat) (t : Tok), l[i]? = some t → (tokCells l)[i * 3]? = some (.int .i64 t.kind) ∧ (tokCells l)[i * 3 + 1]? = some (.string (bs t.text)) ∧ (tokCells l)[i * 3 + 2]? = some (.int .i64 t.pos) := by
    intro l
    induction l with
    | nil => intro i t h; simp at h
    | cons a l ih =>
      intro i t h
      have e : tokCells (a :: l) = tokC a ++ tokCells l := by simp [tokCells]
      match i with
      | 0 => simp at h; subst h; rw [e]; exact ⟨rfl, rfl, rfl⟩
      | i + 1 =>
        have := ih i t (by simpa using h)
        rw [e]
        refine ⟨?_, ?_, ?_⟩
        · rw [List.getElem?_append_right (by simp [tokC]; omega)]; rw [← this.1]; congr 1; simp [tokC]; omega
        · rw [List.getElem?_append_right (by simp [tokC]; omega)]; rw [← this.2.1]; congr 1; simp [tokC]; omega
        · rw [List.getElem?_append_right (by simp [tokC]; omega)]; rw [← this.2.2]; congr 1; simp [tokC]; omega
  have hi' : i < T.length := by rw [← h.hn]; exact hi
  obtain ⟨h0, h1, h2⟩ := hT T i T[i] (List.getElem?_eq_getElem hi')
  refine ⟨T[i], b, o, List.getElem?_eq_getElem hi', e, hb, hc _ _ h0, ?_, ?_⟩
  · have := hc _ _ h1; rwa [← Nat.add_assoc] at this
  · have := hc _ _ h2; rwa [← Nat.add_assoc] at this
end

def tokV (t : Tok) : Value := .agg #[.int .i64 t.kind, .string (bs t.text), .int .i64 t.pos]
set_option maxRecDepth 100000 in
set_option maxHeartbeats 2000000 in
theorem peek_any (B pb mb n c : Nat) (T : List Tok) (A : Option Addr) (s : PS) (w : World) (h : PAt B pb mb T A n c s w) :
    Calls Try.prog 31 #[.pointer (some ⟨pb, 0, none⟩)] w fun e w' => e = .returned (.agg #[.int .i64 (pk T s).kind, .string (bs (pk T s).text), .int .i64 (pk T s).pos]) ∧ Below w.heap.size w w' := by
  obtain ⟨t, ht⟩ : ∃ t, t = pk T s := ⟨_, rfl⟩
  rw [← ht]
  have hx := Box.new w #[.int .i64 0, .string ⟨#[]⟩, .int .i64 0] tTok
  have hW := h.below hx.below
  obtain ⟨W, eW⟩ : ∃ W, w.alloc (.cells #[.int .i64 0, .string ⟨#[]⟩, .int .i64 0] tTok) = W := ⟨_, rfl⟩
  rw [eW] at hx hW
  obtain ⟨c0, c1, c2, c3, c4, c5, c6⟩ := hW.cells
  have x0 : W.cell? ⟨w.heap.size, 0, none⟩ = some (.int .i64 0) := hx.cell 0
  have x1 : W.cell? ⟨w.heap.size, 1, none⟩ = some (.string ⟨#[]⟩) := hx.cell 1
  have x2 : W.cell? ⟨w.heap.size, 2, none⟩ = some (.int .i64 0) := hx.cell 2
  have xf := hx.fz
  have hlen := h.len
  have HX := Lib.hid hx
  by_cases hlt : s.next < n
  · obtain ⟨t', b, o, e1, rfl, hb, k0, k1, k2⟩ := hW.tok s.next hlt
    obtain rfl : t' = t := by rw [ht]; unfold pk; rw [e1]; rfl
    clear ht h hx hW e1
    go_enter Try.func31, Try.ntmps31
    go_wp2_with fail
    go_quiet (fail)
    go_wp2_with fail
    go_region
    go_wp2
    refine bodyPost_ret (v := .agg #[.int .i64 t'.kind, .string (bs t'.text), .int .i64 t'.pos]) (by simp [results, Try.results31, go_sem, x0, x1, x2]) rfl ⟨rfl, ?_⟩
    exact (((HX.out.drewN _).below.setCell (Nat.le_refl _) _).setCell (Nat.le_refl _) _).setCell (Nat.le_refl _) _
  · obtain rfl : t = tok0 := by rw [ht]; unfold pk; rw [List.getElem?_eq_none (by rw [← h.hn]; omega)]; rfl
    have hge : decide (s.next < n) = false := by simpa using hlt
    clear ht h hW hlt hx
    go_enter Try.func31, Try.ntmps31
    go_wp2_with fail
    go_quiet (fail)
    go_wp2
    refine bodyPost_ret (v := .agg #[.int .i64 0, .string ⟨#[]⟩, .int .i64 0]) (by simp [results, Try.results31, go_sem, x0, x1, x2]) rfl ⟨rfl, ?_⟩
    exact (((HX.out.drewN _).below.setCell (Nat.le_refl _) _).setCell (Nat.le_refl _) _).setCell (Nat.le_refl _) _

/-! ### sees, accept -/
theorem str_eq (l x : Bytes) : ((bs l).toList == x) = (l == x) := by rw [bs_toList]
set_option maxRecDepth 100000 in
set_option maxHeartbeats 2000000 in
theorem sees_any (B pb mb n c : Nat) (T : List Tok) (A : Option Addr) (s : PS) (x : ByteArray) (r : Bool) (w : World) (h : PAt B pb mb T A n c s w) (hr : sees T s x.data.toList = r) :
    Calls Try.prog 30 #[.pointer (some ⟨pb, 0, none⟩), .string x] w fun e w' => e = .returned (.bool r) ∧ Below w.heap.size w w' := by
  have HP := Lib.hid (peek_any B pb mb n c T A s w h)
  obtain ⟨t, ht⟩ : ∃ t, t = pk T s := ⟨_, rfl⟩
  unfold sees at hr
  rw [← ht] at HP hr
  have hcase : ((t.kind == 3) = true ∧ r = (t.text == x.data.toList)) ∨ ((t.kind == 3) = false ∧ (t.kind == 4) = true ∧ r = (t.text == x.data.toList)) ∨ ((t.kind == 3) = false ∧ (t.kind == 4) = false ∧ r = false) := by
    by_cases h3 : t.kind = 3
    · left; simp [h3] at hr ⊢; exact hr.symm
    · by_cases h4 : t.kind = 4
      · right; left; simp [h4] at hr ⊢; exact hr.symm
      · right; right; simp [h3, h4] at hr ⊢; exact hr
  obtain ⟨k, hk⟩ : ∃ k : Int, k = (t.kind : Int) := ⟨_, rfl⟩
  have hcase2 : ((k == 3) = true ∧ r = (t.text == x.data.toList)) ∨ ((k == 3) = false ∧ (k == 4) = true ∧ r = (t.text == x.data.toList)) ∨ ((k == 3) = false ∧ (k == 4) = false ∧ r = false) := by
    have e3 : (k == 3) = (t.kind == 3) := by rw [hk, Bool.eq_iff_iff]; simp; omega
    have e4 : (k == 4) = (t.kind == 4) := by rw [hk, Bool.eq_iff_iff]; simp; omega
    rw [e3, e4]; exact hcase
  have hq : (t.text == x.data.toList) = ((bs t.text).toList == x.toList) := by rw [bs_toList, ByteArray.toList_eq]
  rw [hq] at hcase2
  obtain ⟨y, hy⟩ : ∃ y, y = bs t.text := ⟨_, rfl⟩
  rw [← hk, ← hy] at HP
  rw [← hy] at hcase2
  clear hr hcase h ht hk hq hy
  rcases hcase2 with ⟨h3, hr⟩ | ⟨h3, h4, hr⟩ | ⟨h3, h4, rfl⟩
  · subst hr
    go_enter Try.func30, Try.ntmps30
    go_wp2_with fail
    refine HP.out.mono ?_
    rintro e w1 ⟨rfl, hb⟩
    have HB := Lib.hid (hb.trans (((Below.refl _ w1).alloc (Nat.le_refl _) (.cells #[.int .i64 k, .string y, .int .i64 t.pos] tTok)).mono hb.size))
    clear hb
    go_wp2
    go_ret
    exact ⟨rfl, HB.out⟩
  · subst hr
    go_enter Try.func30, Try.ntmps30
    go_wp2_with fail
    refine HP.out.mono ?_
    rintro e w1 ⟨rfl, hb⟩
    have HB := Lib.hid (hb.trans (((Below.refl _ w1).alloc (Nat.le_refl _) (.cells #[.int .i64 k, .string y, .int .i64 t.pos] tTok)).mono hb.size))
    clear hb
    go_wp2
    go_ret
    exact ⟨rfl, HB.out⟩
  · go_enter Try.func30, Try.ntmps30
    go_wp2_with fail
    refine HP.out.mono ?_
    rintro e w1 ⟨rfl, hb⟩
    have HB := Lib.hid (hb.trans (((Below.refl _ w1).alloc (Nat.le_refl _) (.cells #[.int .i64 k, .string y, .int .i64 t.pos] tTok)).mono hb.size))
    clear hb
    go_wp2
    go_ret
    exact ⟨rfl, HB.out⟩

/-! ### what changes the state -/
/-- the parser's box with one field set -/
theorem set_box {w : World} {pb : Nat} {a0 a1 a2 a3 a4 a5 a6 : Value} (h : w.heap[pb]? = some (.cells #[a0, a1, a2, a3, a4, a5, a6] tPa (0, 0))) (j : Nat) (v : Value) :
    (w.setCell ⟨pb, j, none⟩ v).heap[pb]? = some (.cells ((#[a0, a1, a2, a3, a4, a5, a6] : Array Value).setIfInBounds j v) tPa (0, 0)) := by
  simp [World.setCell, Array.getElem?_modify, h]
theorem owns_set {F : Nat → Prop} (w : World) (p : Addr) (v : Value) (hF : F p.block) : Owns w (w.setCell p v) F F :=
  ⟨rfl, rfl, rfl, by simp [World.setCell], fun k _ hk => Below.heap_setCell _ _ _ _ (fun e => hk (e ▸ hF)), fun _ h => .inl h⟩
theorem PAt.set {B pb mb n c : Nat} {T : List Tok} {A : Option Addr} {s s' : PS} {w : World} (h : PAt B pb mb T A n c s w) (j : Nat) (v : Value)
    (hbox : (#[Value.slice A n c, .int .i64 s.next, .int .i64 s.depth, .int .i64 s.rels, .map (some mb), .bool s.over, .int .i64 s.off] : Array Value).setIfInBounds j v = #[Value.slice A n c, .int .i64 s'.next, .int .i64 s'.depth, .int .i64 s'.rels, .map (some mb), .bool s'.over, .int .i64 s'.off])
    (hn : s'.names = s.names) (h1 : s'.next ≤ n) (h2 : s'.depth ≤ s'.next + 1) (h3 : s'.rels ≤ s'.next + 1) (h4 : s'.names.length ≤ s'.next + 1) : PAt B pb mb T A n c s' (w.setCell ⟨pb, j, none⟩ v) :=
  { ne := h.ne, bp := h.bp, bm := h.bm, hn := h.hn, len := h.len, next := h1, depth := h2, rels := h3, nms := h4, small := h.small
    box := by rw [set_box h.box, hbox]
    map := by rw [hn]; exact h.map.keep (Below.heap_setCell _ _ _ _ (fun e => h.ne e.symm))
    toks := h.toks.setCell (p := ⟨pb, j, none⟩) h.bp v }

theorem PAt.advs {B pb mb n c : Nat} {T : List Tok} {A : Option Addr} {s : PS} {w : World} (h : PAt B pb mb T A n c s w) (hlt : s.next < n) : PAt B pb mb T A n c (adv s) (w.setCell ⟨pb, 1, none⟩ (.int .i64 ((s.next : Int) + 1))) :=
  h.set (s' := adv s) 1 _ rfl rfl hlt (by have := h.depth; show s.depth ≤ s.next + 1 + 1; omega) (by have := h.rels; show s.rels ≤ s.next + 1 + 1; omega) (by have := h.nms; show s.names.length ≤ s.next + 1 + 1; omega)
set_option maxRecDepth 100000 in
set_option maxHeartbeats 2000000 in
theorem accept_no (B pb mb n c : Nat) (T : List Tok) (A : Option Addr) (s : PS) (x : ByteArray) (w : World) (h : PAt B pb mb T A n c s w) (hr : sees T s x.data.toList = false) :
    Calls Try.prog 39 #[.pointer (some ⟨pb, 0, none⟩), .string x] w fun e w' => e = .returned (.bool false) ∧ Below w.heap.size w w' := by
  have HS := Lib.hid (sees_any B pb mb n c T A s x false w h hr)
  clear h hr
  go_enter Try.func39, Try.ntmps39
  go_wp2_with fail
  refine HS.out.mono ?_
  rintro e w1 ⟨rfl, hb⟩
  have HB := Lib.hid hb
  clear hb
  go_wp2
  go_ret
  exact ⟨rfl, HB.out⟩
set_option maxRecDepth 100000 in
set_option maxHeartbeats 2000000 in
theorem accept_yes (B pb mb n c : Nat) (T : List Tok) (A : Option Addr) (s : PS) (x : ByteArray) (w : World) (h : PAt B pb mb T A n c s w) (hr : sees T s x.data.toList = true) :
    Calls Try.prog 39 #[.pointer (some ⟨pb, 0, none⟩), .string x] w fun e w' => e = .returned (.bool true) ∧ PAt B pb mb T A n c (adv s) w' ∧ Owns w w' (Fp pb mb) (Fp pb mb) := by
  have HS := Lib.hid (sees_any B pb mb n c T A s x true w h hr)
  have hlt := sees_lt hr
  rw [← h.hn] at hlt
  have HH := Lib.hid h
  have hlen := h.len
  clear h hr
  go_enter Try.func39, Try.ntmps39
  go_wp2_with fail
  refine HS.out.mono ?_
  rintro e w1 ⟨rfl, hb⟩
  have h1 := HH.out.below hb
  obtain ⟨c0, c1, c2, c3, c4, c5, c6⟩ := h1.cells
  have f1 := h1.fz
  have HB := Lib.hid hb
  have H1 := Lib.hid h1
  clear hb h1
  go_wp2
  go_ret
  refine ⟨rfl, ?_, (Owns.of_below HB.out _).trans (owns_set _ _ _ (.inl rfl))⟩
  have h1 := H1.out
  exact h1.advs hlt

/-! ### exceed, open -/
set_option maxRecDepth 100000 in
set_option maxHeartbeats 2000000 in
theorem exceed_any (B pb mb n c : Nat) (T : List Tok) (A : Option Addr) (s : PS) (p : Nat) (w : World) (h : PAt B pb mb T A n c s w) :
    Calls Try.prog 44 #[.pointer (some ⟨pb, 0, none⟩), .int .i64 p] w fun e w' => e = .returned (.tuple #[]) ∧ PAt B pb mb T A n c (exc s p) w' ∧ Owns w w' (Fp pb mb) (Fp pb mb) := by
  obtain ⟨c0, c1, c2, c3, c4, c5, c6⟩ := h.cells
  have f1 := h.fz
  have HH := Lib.hid h
  have HE := Lib.hid (show s.over = false ∨ p < s.off → exc s p = { s with over := true, off := p } from fun e => if_pos e)
  have HE2 := Lib.hid (show ¬ (s.over = false ∨ p < s.off) → exc s p = s from fun e => if_neg e)
  have HP := Lib.hid (show ∀ s2, s2 = { s with over := true, off := p } → PAt B pb mb T A n c s2 ((w.setCell ⟨pb, 5, none⟩ (.bool true)).setCell ⟨pb, 6, none⟩ (.int .i64 p)) from fun s2 e => by
    have h1 := h.set (s' := { s with over := true }) 5 (.bool true) rfl rfl h.next h.depth h.rels h.nms
    have h2 := h1.set (s' := { s with over := true, off := p }) 6 (.int .i64 p) rfl rfl h.next h.depth h.rels h.nms
    rw [e]; exact h2)
  obtain ⟨v, hv⟩ : ∃ v, v = s.over := ⟨_, rfl⟩
  rw [← hv] at c5 HE HE2
  clear h
  cases v
  · clear hv
    go_enter Try.func44, Try.ntmps44
    go_wp2
    go_end0
    exact ⟨rfl, HP.out _ (HE.out (by first | exact .inl rfl | exact .inl trivial | trivial)), (owns_set _ _ _ (.inl rfl)).trans (owns_set _ _ _ (.inl rfl))⟩
  · by_cases hp : p < s.off
    · have hd : decide (p < s.off) = true := by simpa using hp
      have HX := Lib.hid hp
      clear hp hv
      go_enter Try.func44, Try.ntmps44
      go_wp2
      go_end0
      exact ⟨rfl, HP.out _ (HE.out (.inr HX.out)), (owns_set _ _ _ (.inl rfl)).trans (owns_set _ _ _ (.inl rfl))⟩
    · have hd : decide (p < s.off) = false := by simpa using hp
      have HX := Lib.hid hp
      clear hp hv
      go_enter Try.func44, Try.ntmps44
      go_wp2
      go_end0
      exact ⟨rfl, by rw [HE2.out (by simp; exact Nat.le_of_not_lt HX.out)]; exact HH.out, Owns.refl _ _⟩
end Pa
end Go.Proofs.Ytkjbfomokdjbnaa
