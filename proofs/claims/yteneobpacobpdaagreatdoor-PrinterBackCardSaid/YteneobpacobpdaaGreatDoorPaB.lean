/-
  The parser's state in memory; peek, sees, accept, exceed, open.
-/
import Derived.Test.YteneobpacobpdaaGreatDoorHy
import Derived.Test.YteneobpacobpdaaGreatDoorPaP
import Derived.Test.YteneobpacobpdaaGreatDoorLxR
import Derived.Test.YteneobpacobpdaaGreatDoorFmU
import Derived.Deep.QuietTactic
import Derived.BigQuiet
import Derived.RegionTactic
import Derived.BigRegion
import Derived.Test.YteneobpacobpdaaGreatDoorTa
set_option linter.unusedSimpArgs false
set_option linter.unusedVariables false
set_option maxRecDepth 100000
set_option maxHeartbeats 16000000
namespace Go.Proofs.YteneobpacobpdaaGreatDoor
open Go.RowKit
namespace Pa
open Lx Fm Dc
attribute [local go_sem] run_store
abbrev tPa : TypeId := 60
abbrev tTok : TypeId := 86
abbrev Fp (pb mb : Nat) : Nat → Prop := fun k => k = pb ∨ k = mb
abbrev Gp (pb mb : Nat) (w : World) : Nat → Prop := fun k => k < w.heap.size ∧ ¬ Fp pb mb k
structure PAt (B pb mb : Nat) (T : List Tok) (A : Option Addr) (n c : Nat) (s : PS) (w : World) : Prop where
 ne : pb ≠ mb
 bp : B ≤ pb
 bm : B ≤ mb
 hn : n = T.length
 len : n ≤ 4000
 next : s.next ≤ n
 depth : s.depth ≤ s.next + 1
 rels : s.rels ≤ s.next + 1
 nms : s.names.length ≤ s.next + 1
 box : w.heap[pb]? = some (.cells #[.slice A n c, .int .i64 s.next, .int .i64 s.depth, .int .i64 s.rels, .map (some mb), .bool s.over, .int .i64 s.off] tPa (0, 0))
 map : MapB w mb s.names.length s.names
 toks : Sl w B 3 (.slice A n c) n (tokCells T)
 small : ∀ t ∈ T, t.pos ≤ 4000
section
variable {B pb mb n c : Nat} {T : List Tok} {A : Option Addr} {s : PS} {w w' : World}
theorem PAt.lt (h : PAt B pb mb T A n c s w) : pb < w.heap.size := (Array.getElem?_eq_some_iff.1 h.box).1
theorem PAt.cells (h : PAt B pb mb T A n c s w) : w.cell? ⟨pb, 0, none⟩ = some (.slice A n c) ∧ w.cell? ⟨pb, 1, none⟩ = some (.int .i64 s.next) ∧ w.cell? ⟨pb, 2, none⟩ = some (.int .i64 s.depth) ∧ w.cell? ⟨pb, 3, none⟩ = some (.int .i64 s.rels) ∧ w.cell? ⟨pb, 4, none⟩ = some (.map (some mb)) ∧ w.cell? ⟨pb, 5, none⟩ = some (.bool s.over) ∧ w.cell? ⟨pb, 6, none⟩ = some (.int .i64 s.off) := by
 have g : ∀ j, w.cell? ⟨pb, j, none⟩ = #[Value.slice A n c, .int .i64 s.next, .int .i64 s.depth, .int .i64 s.rels, .map (some mb), .bool s.over, .int .i64 s.off][j]? := fun j => by simp [World.cell?, h.box]
 exact ⟨g 0, g 1, g 2, g 3, g 4, g 5, g 6⟩
theorem PAt.fz (h : PAt B pb mb T A n c s w) : ∀ j, w.frozen? ⟨pb, j, none⟩ = false := fun j => by simp [World.frozen?, h.box]
theorem PAt.below (h : PAt B pb mb T A n c s w) (hb : Below w.heap.size w w') : PAt B pb mb T A n c s w' :=
 {h with box := (hb.block pb h.lt).trans h.box, map := h.map.keep (hb.block mb h.map.lt), toks := h.toks.keep (fun p hp => hb.cell (Nat.lt_of_lt_of_le hp (Nat.le_trans h.bp (Nat.le_of_lt h.lt)))) }
theorem PAt.tok (h : PAt B pb mb T A n c s w) (i : Nat) (hi : i < n) : ∃ t b o, T[i]? = some t ∧ A = some ⟨b, o, none⟩ ∧ b < B ∧ w.cell? ⟨b, o + i * 3, none⟩ = some (.int .i64 t.kind) ∧ w.cell? ⟨b, o + i * 3 + 1, none⟩ = some (.string (bs t.text)) ∧ w.cell? ⟨b, o + i * 3 + 2, none⟩ = some (.int .i64 t.pos) := by
 obtain ⟨b, o, e, hb, hc⟩ := h.toks.at_ (by omega)
 have hT : ∀ (l : List Tok) (i : Nat) (t : Tok), l[i]? = some t → (tokCells l)[i * 3]? = some (.int .i64 t.kind) ∧ (tokCells l)[i * 3 + 1]? = some (.string (bs t.text)) ∧ (tokCells l)[i * 3 + 2]? = some (.int .i64 t.pos) := by
  intro l
  induction l with
  | nil => intro i t h; simp at h
  | cons a l ih =>
   intro i t h
   have e : tokCells (a :: l) = tokC a ++ tokCells l := by simp [tokCells]
   match i with
   | 0 => simp at h; subst h; rw [e]; exact ⟨rfl, rfl, rfl⟩
   | i + 1 =>
    have := ih i t (by simpa using h)
    rw [e]
    refine ⟨?_, ?_, ?_⟩
    ·rw [List.getElem?_append_right (by simp [tokC]; omega)]; rw [← this.1]; congr 1; simp [tokC]; omega
    ·rw [List.getElem?_append_right (by simp [tokC]; omega)]; rw [← this.2.1]; congr 1; simp [tokC]; omega
    ·rw [List.getElem?_append_right (by simp [tokC]; omega)]; rw [← this.2.2]; congr 1; simp [tokC]; omega
 have hi' : i < T.length := by rw [← h.hn]; exact hi
 obtain ⟨h0, h1, h2⟩ := hT T i T[i] (List.getElem?_eq_getElem hi')
 refine ⟨T[i], b, o, List.getElem?_eq_getElem hi', e, hb, hc _ _ h0, ?_, ?_⟩
 ·have := hc _ _ h1; rwa [← Nat.add_assoc] at this
 ·have := hc _ _ h2; rwa [← Nat.add_assoc] at this
end
theorem peek_any (B pb mb n c : Nat) (T : List Tok) (A : Option Addr) (s : PS) (w : World) (h : PAt B pb mb T A n c s w) :
  Calls Tryz.prog 95 #[.pointer (some ⟨pb, 0, none⟩)] w fun e w' => e = .returned (.agg #[.int .i64 (pk T s).kind, .string (bs (pk T s).text), .int .i64 (pk T s).pos]) ∧ Below w.heap.size w w' := by
 obtain ⟨t, ht⟩ : ∃ t, t = pk T s := ⟨_, rfl⟩
 rw [← ht]
 have hx := Box.new w #[.int .i64 0, .string ⟨#[]⟩, .int .i64 0] tTok
 have hW := h.below hx.below
 obtain ⟨W, eW⟩ : ∃ W, w.alloc (.cells #[.int .i64 0, .string ⟨#[]⟩, .int .i64 0] tTok) = W := ⟨_, rfl⟩
 rw [eW] at hx hW
 obtain ⟨c0, c1, c2, c3, c4, c5, c6⟩ := hW.cells
 have x0 : W.cell? ⟨w.heap.size, 0, none⟩ = some (.int .i64 0) := hx.cell 0
 have x1 : W.cell? ⟨w.heap.size, 1, none⟩ = some (.string ⟨#[]⟩) := hx.cell 1
 have x2 : W.cell? ⟨w.heap.size, 2, none⟩ = some (.int .i64 0) := hx.cell 2
 have xf := hx.fz
 have hlen := h.len
 have HX := h_ hx
 by_cases hlt : s.next < n
 ·obtain ⟨t', b, o, e1, rfl, hb, k0, k1, k2⟩ := hW.tok s.next hlt
  obtain rfl : t' = t := by rw [ht]; unfold pk; rw [e1]; rfl
  clear ht h hx hW e1
  go_enter Tryz.func95, Tryz.ntmps95
  go_wp2_with fail
  go_quiet (fail)
  go_wp2_with fail
  go_region
  go_wp2
  refine bodyPost_ret (v := .agg #[.int .i64 t'.kind, .string (bs t'.text), .int .i64 t'.pos]) (by simp [results, Tryz.results95, go_sem, x0, x1, x2]) rfl ⟨rfl, ?_⟩
  exact (((HX.out.drewN _).below.setCell (Nat.le_refl _) _).setCell (Nat.le_refl _) _).setCell (Nat.le_refl _) _
 ·obtain rfl : t = tok0 := by rw [ht]; unfold pk; rw [List.getElem?_eq_none (by rw [← h.hn]; omega)]; rfl
  have hge : decide (s.next < n) = false := by simpa using hlt
  clear ht h hW hlt hx
  go_enter Tryz.func95, Tryz.ntmps95
  go_wp2_with fail
  go_quiet (fail)
  go_wp2
  refine bodyPost_ret (v := .agg #[.int .i64 0, .string ⟨#[]⟩, .int .i64 0]) (by simp [results, Tryz.results95, go_sem, x0, x1, x2]) rfl ⟨rfl, ?_⟩
  exact (((HX.out.drewN _).below.setCell (Nat.le_refl _) _).setCell (Nat.le_refl _) _).setCell (Nat.le_refl _) _
theorem sees_any (B pb mb n c : Nat) (T : List Tok) (A : Option Addr) (s : PS) (x : ByteArray) (r : Bool) (w : World) (h : PAt B pb mb T A n c s w) (hr : sees T s x.data.toList = r) :
  Calls Tryz.prog 85 #[.pointer (some ⟨pb, 0, none⟩), .string x] w fun e w' => e = .returned (.bool r) ∧ Below w.heap.size w w' := by
 have HP := h_ (peek_any B pb mb n c T A s w h)
 obtain ⟨t, ht⟩ : ∃ t, t = pk T s := ⟨_, rfl⟩
 unfold sees at hr
 rw [← ht] at HP hr
 have hcase : ((t.kind == 3) = true ∧ r = (t.text == x.data.toList)) ∨ ((t.kind == 3) = false ∧ (t.kind == 4) = true ∧ r = (t.text == x.data.toList)) ∨ ((t.kind == 3) = false ∧ (t.kind == 4) = false ∧ r = false) := by
  by_cases h3 : t.kind = 3
  ·left; simp [h3] at hr ⊢; exact hr.symm
  ·by_cases h4 : t.kind = 4
   ·right; left; simp [h4] at hr ⊢; exact hr.symm
   ·right; right; simp [h3, h4] at hr ⊢; exact hr
 obtain ⟨k, hk⟩ : ∃ k : Int, k = (t.kind : Int) := ⟨_, rfl⟩
 have hcase2 : ((k == 3) = true ∧ r = (t.text == x.data.toList)) ∨ ((k == 3) = false ∧ (k == 4) = true ∧ r = (t.text == x.data.toList)) ∨ ((k == 3) = false ∧ (k == 4) = false ∧ r = false) := by
  have e3 : (k == 3) = (t.kind == 3) := by rw [hk, Bool.eq_iff_iff]; simp; omega
  have e4 : (k == 4) = (t.kind == 4) := by rw [hk, Bool.eq_iff_iff]; simp; omega
  rw [e3, e4]; exact hcase
 have hq : (t.text == x.data.toList) = ((bs t.text).toList == x.toList) := by rw [bs_toList, ByteArray.toList_eq]
 rw [hq] at hcase2
 obtain ⟨y, hy⟩ : ∃ y, y = bs t.text := ⟨_, rfl⟩
 rw [← hk, ← hy] at HP
 rw [← hy] at hcase2
 clear hr hcase h ht hk hq hy
 rcases hcase2 with ⟨h3, hr⟩ | ⟨h3, h4, hr⟩ | ⟨h3, h4, rfl⟩
 ·subst hr
  go_enter Tryz.func85, Tryz.ntmps85
  go_wp2_with fail
  refine HP.out.mono ?_
  rintro e w1 ⟨rfl, hb⟩
  have HB := h_ (hb.trans (((Below.refl _ w1).alloc (Nat.le_refl _) (.cells #[.int .i64 k, .string y, .int .i64 t.pos] tTok)).mono hb.size))
  clear hb
  go_wp2
  go_ret
  exact ⟨rfl, HB.out⟩
 ·subst hr
  go_enter Tryz.func85, Tryz.ntmps85
  go_wp2_with fail
  refine HP.out.mono ?_
  rintro e w1 ⟨rfl, hb⟩
  have HB := h_ (hb.trans (((Below.refl _ w1).alloc (Nat.le_refl _) (.cells #[.int .i64 k, .string y, .int .i64 t.pos] tTok)).mono hb.size))
  clear hb
  go_wp2
  go_ret
  exact ⟨rfl, HB.out⟩
 ·go_enter Tryz.func85, Tryz.ntmps85
  go_wp2_with fail
  refine HP.out.mono ?_
  rintro e w1 ⟨rfl, hb⟩
  have HB := h_ (hb.trans (((Below.refl _ w1).alloc (Nat.le_refl _) (.cells #[.int .i64 k, .string y, .int .i64 t.pos] tTok)).mono hb.size))
  clear hb
  go_wp2
  go_ret
  exact ⟨rfl, HB.out⟩
theorem set_box {w : World} {pb : Nat} {a0 a1 a2 a3 a4 a5 a6 : Value} (h : w.heap[pb]? = some (.cells #[a0, a1, a2, a3, a4, a5, a6] tPa (0, 0))) (j : Nat) (v : Value) :
  (w.setCell ⟨pb, j, none⟩ v).heap[pb]? = some (.cells ((#[a0, a1, a2, a3, a4, a5, a6] : Array Value).setIfInBounds j v) tPa (0, 0)) := by
 simp [World.setCell, Array.getElem?_modify, h]
theorem owns_set {F : Nat → Prop} (w : World) (p : Addr) (v : Value) (hF : F p.block) : Owns w (w.setCell p v) F F :=
 ⟨rfl, rfl, rfl, by simp [World.setCell], fun k _ hk => Below.heap_setCell _ _ _ _ (fun e => hk (e ▸ hF)), fun _ h => .inl h⟩
theorem PAt.set {B pb mb n c : Nat} {T : List Tok} {A : Option Addr} {s s' : PS} {w : World} (h : PAt B pb mb T A n c s w) (j : Nat) (v : Value)
  (hbox : (#[Value.slice A n c, .int .i64 s.next, .int .i64 s.depth, .int .i64 s.rels, .map (some mb), .bool s.over, .int .i64 s.off] : Array Value).setIfInBounds j v = #[Value.slice A n c, .int .i64 s'.next, .int .i64 s'.depth, .int .i64 s'.rels, .map (some mb), .bool s'.over, .int .i64 s'.off])
  (hn : s'.names = s.names) (h1 : s'.next ≤ n) (h2 : s'.depth ≤ s'.next + 1) (h3 : s'.rels ≤ s'.next + 1) (h4 : s'.names.length ≤ s'.next + 1) : PAt B pb mb T A n c s' (w.setCell ⟨pb, j, none⟩ v) :=
 {ne := h.ne, bp := h.bp, bm := h.bm, hn := h.hn, len := h.len, next := h1, depth := h2, rels := h3, nms := h4, small := h.small
  box := by rw [set_box h.box, hbox]
  map := by rw [hn]; exact h.map.keep (Below.heap_setCell _ _ _ _ (fun e => h.ne e.symm))
  toks := h.toks.setCell (p := ⟨pb, j, none⟩) h.bp v }
theorem PAt.advs {B pb mb n c : Nat} {T : List Tok} {A : Option Addr} {s : PS} {w : World} (h : PAt B pb mb T A n c s w) (hlt : s.next < n) : PAt B pb mb T A n c (adv s) (w.setCell ⟨pb, 1, none⟩ (.int .i64 ((s.next : Int) + 1))) :=
 h.set (s' := adv s) 1 _ rfl rfl hlt (by have := h.depth; show s.depth ≤ s.next + 1 + 1; omega) (by have := h.rels; show s.rels ≤ s.next + 1 + 1; omega) (by have := h.nms; show s.names.length ≤ s.next + 1 + 1; omega)
theorem accept_no (B pb mb n c : Nat) (T : List Tok) (A : Option Addr) (s : PS) (x : ByteArray) (w : World) (h : PAt B pb mb T A n c s w) (hr : sees T s x.data.toList = false) :
  Calls Tryz.prog 68 #[.pointer (some ⟨pb, 0, none⟩), .string x] w fun e w' => e = .returned (.bool false) ∧ Below w.heap.size w w' := by
 have HS := h_ (sees_any B pb mb n c T A s x false w h hr)
 clear h hr
 go_enter Tryz.func68, Tryz.ntmps68
 go_wp2_with fail
 refine HS.out.mono ?_
 rintro e w1 ⟨rfl, hb⟩
 have HB := h_ hb
 clear hb
 go_wp2
 go_ret
 exact ⟨rfl, HB.out⟩
theorem accept_yes (B pb mb n c : Nat) (T : List Tok) (A : Option Addr) (s : PS) (x : ByteArray) (w : World) (h : PAt B pb mb T A n c s w) (hr : sees T s x.data.toList = true) :
  Calls Tryz.prog 68 #[.pointer (some ⟨pb, 0, none⟩), .string x] w fun e w' => e = .returned (.bool true) ∧ PAt B pb mb T A n c (adv s) w' ∧ Owns w w' (Fp pb mb) (Fp pb mb) := by
 have HS := h_ (sees_any B pb mb n c T A s x true w h hr)
 have hlt := sees_lt hr
 rw [← h.hn] at hlt
 have HH := h_ h
 have hlen := h.len
 clear h hr
 go_enter Tryz.func68, Tryz.ntmps68
 go_wp2_with fail
 refine HS.out.mono ?_
 rintro e w1 ⟨rfl, hb⟩
 have h1 := HH.out.below hb
 obtain ⟨c0, c1, c2, c3, c4, c5, c6⟩ := h1.cells
 have f1 := h1.fz
 have HB := h_ hb
 have H1 := h_ h1
 clear hb h1
 go_wp2
 go_ret
 refine ⟨rfl, ?_, (Owns.of_below HB.out _).trans (owns_set _ _ _ (.inl rfl))⟩
 have h1 := H1.out
 exact h1.advs hlt
theorem exceed_any (B pb mb n c : Nat) (T : List Tok) (A : Option Addr) (s : PS) (p : Nat) (w : World) (h : PAt B pb mb T A n c s w) :
  Calls Tryz.prog 114 #[.pointer (some ⟨pb, 0, none⟩), .int .i64 p] w fun e w' => e = .returned (.tuple #[]) ∧ PAt B pb mb T A n c (exc s p) w' ∧ Owns w w' (Fp pb mb) (Fp pb mb) := by
 obtain ⟨c0, c1, c2, c3, c4, c5, c6⟩ := h.cells
 have f1 := h.fz
 have HH := h_ h
 have HE := h_ (show s.over = false ∨ p < s.off → exc s p = { s with over := true, off := p } from fun e => if_pos e)
 have HE2 := h_ (show ¬ (s.over = false ∨ p < s.off) → exc s p = s from fun e => if_neg e)
 have HP := h_ (show ∀ s2, s2 = { s with over := true, off := p } → PAt B pb mb T A n c s2 ((w.setCell ⟨pb, 5, none⟩ (.bool true)).setCell ⟨pb, 6, none⟩ (.int .i64 p)) from fun s2 e => by
  have h1 := h.set (s' := { s with over := true }) 5 (.bool true) rfl rfl h.next h.depth h.rels h.nms
  have h2 := h1.set (s' := { s with over := true, off := p }) 6 (.int .i64 p) rfl rfl h.next h.depth h.rels h.nms
  rw [e]; exact h2)
 obtain ⟨v, hv⟩ : ∃ v, v = s.over := ⟨_, rfl⟩
 rw [← hv] at c5 HE HE2
 clear h
 cases v
 ·clear hv
  go_enter Tryz.func114, Tryz.ntmps114
  go_wp2
  go_end0
  exact ⟨rfl, HP.out _ (HE.out (by first | exact .inl rfl | exact .inl trivial | trivial)), (owns_set _ _ _ (.inl rfl)).trans (owns_set _ _ _ (.inl rfl))⟩
 ·by_cases hp : p < s.off
  ·have hd : decide (p < s.off) = true := by simpa using hp
   have HX := h_ hp
   clear hp hv
   go_enter Tryz.func114, Tryz.ntmps114
   go_wp2
   go_end0
   exact ⟨rfl, HP.out _ (HE.out (.inr HX.out)), (owns_set _ _ _ (.inl rfl)).trans (owns_set _ _ _ (.inl rfl))⟩
  ·have hd : decide (p < s.off) = false := by simpa using hp
   have HX := h_ hp
   clear hp hv
   go_enter Tryz.func114, Tryz.ntmps114
   go_wp2
   go_end0
   exact ⟨rfl, by rw [HE2.out (by simp; exact Nat.le_of_not_lt HX.out)]; exact HH.out, Owns.refl _ _⟩
end Pa
end Go.Proofs.YteneobpacobpdaaGreatDoor
namespace Go.Proofs.YteneobpacobpdaaGreatDoor
open Go.RowKit
namespace Pa
open Lx Fm Dc
theorem fieldTok0 (x0 x1 x2 : Value) (w : World) : (Instr.field tTok (.agg #[x0, x1, x2]) 0).run Tryz.prog w = .ok x0 w := by kernel_rfl
theorem fieldTok2 (x0 x1 x2 : Value) (w : World) : (Instr.field tTok (.agg #[x0, x1, x2]) 2).run Tryz.prog w = .ok x2 w := by kernel_rfl
attribute [local go_sem] run_store fieldTok0 fieldTok2
def Gd (s : PS) : Prop := s.depth ≤ s.next ∧ s.rels ≤ s.next ∧ s.names.length ≤ s.next
theorem exc_eq (s : PS) (p : Nat) : (exc s p).next = s.next ∧ (exc s p).depth = s.depth ∧ (exc s p).rels = s.rels ∧ (exc s p).names = s.names := ⟨exc_next s p, exc_depth s p, exc_rels s p, exc_names s p⟩
theorem open_any (B pb mb n c : Nat) (T : List Tok) (A : Option Addr) (s : PS) (w : World) (h : PAt B pb mb T A n c s w) (hg : Gd s) (hlt : s.next < n) :
  Calls Tryz.prog 106 #[.pointer (some ⟨pb, 0, none⟩)] w fun e w' => e = .returned (.tuple #[]) ∧ PAt B pb mb T A n c (opn T s) w' ∧ Owns w w' (Fp pb mb) (Fp pb mb) := by
 have hlen := h.len
 have hd := hg.1
 obtain ⟨s1, hs1⟩ : ∃ s1, s1 = { s with depth := s.depth + 1 } := ⟨_, rfl⟩
 have h1 : PAt B pb mb T A n c s1 (w.setCell ⟨pb, 2, none⟩ (.int .i64 ((s.depth : Int) + 1))) := h.set (s' := s1) 2 _ (by rw [hs1]; rfl) (by rw [hs1]) (by rw [hs1]; exact h.next) (by rw [hs1]; show s.depth + 1 ≤ s.next + 1; omega) (by rw [hs1]; exact h.rels) (by rw [hs1]; exact h.nms)
 obtain ⟨W, hW⟩ : ∃ W, w.setCell ⟨pb, 2, none⟩ (.int .i64 ((s.depth : Int) + 1)) = W := ⟨_, rfl⟩
 rw [hW] at h1
 obtain ⟨c0, c1, c2, c3, c4, c5, c6⟩ := h.cells
 have f0 := h.fz
 obtain ⟨d0, d1, d2, d3, d4, d5, d6⟩ := h1.cells
 have f1 := h1.fz
 have e1 : s1.next = s.next := by rw [hs1]
 have e2 : s1.depth = s.depth + 1 := by rw [hs1]
 have epk : pk T s1 = pk T s := by rw [hs1]; rfl
 have HO := h_ (show Owns w W (Fp pb mb) (Fp pb mb) by rw [← hW]; exact owns_set _ _ _ (.inl rfl))
 rw [e2] at d2
 rw [e1] at d1
 by_cases h60 : 60 < s.depth + 1
 ·have HI := h_ (show opn T s = adv (exc s1 (pk T s).pos) by unfold opn inc; rw [if_pos h60, hs1])
  have HK := h_ (peek_any B pb mb n c T A s1 W h1)
  rw [epk] at HK
  have H1 := h_ h1
  have HE1 := h_ e1
  clear h h1 hs1 e1 e2 epk hg
  go_enter Tryz.func106, Tryz.ntmps106
  go_wp2_with fail
  refine HK.out.mono ?_
  rintro e w2 ⟨rfl, hb2⟩
  have HX := h_ (exceed_any B pb mb n c T A s1 (pk T s).pos w2 (H1.out.below hb2))
  have HO2 := h_ (HO.out.trans (Owns.of_below hb2 _))
  clear hb2
  go_wp2_with fail
  refine HX.out.mono ?_
  rintro e w3 ⟨rfl, h3, ho3⟩
  obtain ⟨g0, g1, g2, g3, g4, g5, g6⟩ := h3.cells
  have f3 := h3.fz
  rw [exc_next, HE1.out] at g1
  have H3 := h_ h3
  have HO3 := h_ (HO2.out.trans ho3)
  clear h3 ho3 hW
  go_wp2
  go_end0
  refine ⟨rfl, ?_, HO3.out.trans (owns_set _ _ _ (.inl rfl))⟩
  rw [HI.out]
  have h5 := H3.out.advs (by rw [exc_next, HE1.out]; exact hlt)
  rw [exc_next, HE1.out] at h5
  exact h5
 ·have HI := h_ (show opn T s = adv s1 by unfold opn inc; rw [if_neg h60, hs1])
  have h60' : s.depth + 1 ≤ 60 := by omega
  have H1 := h_ h1
  have HE1 := h_ e1
  clear h h1 hs1 e1 e2 epk hg h60
  go_enter Tryz.func106, Tryz.ntmps106
  go_wp2_with fail
  clear hW
  go_end0
  refine ⟨rfl, ?_, HO.out.trans (owns_set _ _ _ (.inl rfl))⟩
  rw [HI.out]
  have h5 := H1.out.advs (by rw [HE1.out]; exact hlt)
  rw [HE1.out] at h5
  exact h5
theorem MapB.runLook' {w : World} {b n : Nat} {L : List ByteArray} (hown : MapB w b n L) (s : ByteArray) (hs : s.size ≤ 9223372036854775807) (x : Bool) (hx : x = decide (s ∈ L)) : Sem.run Tryz.prog (Instr.lookup tMB (.map (some b)) (.string s) false) w = .ok (.bool x) w := by
 obtain ⟨D, h1, h2, _⟩ := hown
 obtain ⟨v, ps, hrun, hv⟩ := h1.lookup strLaw Tryz.underlying58 (zeroB w) (plainElem_bool Tryz.underlying4 false) (keyS hs)
 rw [h2] at hv
 obtain ⟨c, rfl, hc⟩ := plainElem_bool_inv Tryz.underlying4 hv
 simp only [Prod.mk.injEq, DataW.lit.injEq, Lit.bool.injEq] at hc
 rw [hrun, ← hc.1, hx]
theorem MapB.run' {w : World} {b n : Nat} {L : List ByteArray} (hown : MapB w b n L) (hn : n < 1000000) (s : ByteArray) (hs : s.size ≤ 9223372036854775807) : ∃ w', Sem.run Tryz.prog (Instr.mapUpdate tMB (.map (some b)) (.string s) (.bool true)) w = .ok () w' ∧ MapB w' b (n + 1) (addN L s) ∧ w.grownBy w' (some b) := by
 obtain ⟨D, h1, h2, h3, h4⟩ := hown
 obtain ⟨w', hr, h5, h6⟩ := h1.update strLaw Tryz.underlying58 (by unfold maxLen; omega) (keyS hs) (plainElem_bool Tryz.underlying4 true)
 exact ⟨w', hr, MapB.put (w := w) h2 h3 h4 h1.isMap (h1.tidy strLaw) s h5, h6⟩
theorem MapB.runLen' {w : World} {b n : Nat} {L : List ByteArray} (hown : MapB w b n L) (Z : Nat) (hZ : Z = L.length) : Sem.run Tryz.prog (Builtin.len_ #[tMB] tI #[.map (some b)]) w = .ok (.int .i64 (Z : Int)) w := by
 obtain ⟨D, h1, h2, h3, h4⟩ := hown
 have h := h1.len Tryz.underlying58 tI
 rw [h4] at h
 rw [hZ]
 exact h
theorem PAt.drewN {B pb mb n c : Nat} {T : List Tok} {A : Option Addr} {s : PS} {w : World} (h : PAt B pb mb T A n c s w) (k : Nat) : PAt B pb mb T A n c s (w.drewN k) :=
 {h with box := h.box, map := h.map, toks := h.toks.drewN k }
theorem PAt.drew {B pb mb n c : Nat} {T : List Tok} {A : Option Addr} {s : PS} {w : World} (h : PAt B pb mb T A n c s w) : PAt B pb mb T A n c s w.drew := { h with box := h.box, map := h.map, toks := h.toks.drew }
theorem owns_drew {w w' : World} {F : Nat → Prop} (h : Owns w w' F F) : Owns w w'.drew F F := ⟨h.os, h.tape, h.output, h.size, h.same, h.foot⟩
theorem PAt.put {B pb mb n c : Nat} {T : List Tok} {A : Option Addr} {s s' : PS} {w w' : World} (h : PAt B pb mb T A n c s w) (hm : MapB w' mb s'.names.length s'.names) (hg : w.grownBy w' (some mb)) (h1 : s'.next = s.next) (h2 : s'.depth = s.depth) (h3 : s'.rels = s.rels) (h4 : s'.names.length ≤ s'.next + 1) (h5 : s'.over = s.over) (h6 : s'.off = s.off) : PAt B pb mb T A n c s' w' :=
 {ne := h.ne, bp := h.bp, bm := h.bm, hn := h.hn, len := h.len, next := by rw [h1]; exact h.next, depth := by rw [h1, h2]; exact h.depth, rels := by rw [h1, h3]; exact h.rels, nms := h4, small := h.small
  box := by rw [h1, h2, h3, h5, h6, hg.block pb h.lt (fun e => h.ne (Option.some.inj e))]; exact h.box
  map := hm
  toks := h.toks.grown hg (Nat.le_trans h.bp (Nat.le_of_lt h.lt)) (fun g hg => by injection hg with hg; rw [← hg]; exact h.bm) }
theorem owns_grow {pb mb : Nat} {w w' : World} (hg : w.grownBy w' (some mb)) : Owns w w' (Fp pb mb) (Fp pb mb) :=
 ⟨hg.os, hg.tape, hg.output, hg.size, fun k hk hF => hg.block k hk (fun e => hF (.inr (Option.some.inj e))), fun _ h => .inl h⟩
theorem name_any (B pb mb n c : Nat) (T : List Tok) (A : Option Addr) (s : PS) (w : World) (h : PAt B pb mb T A n c s w) (hg : s.names.length ≤ s.next) (hlt : s.next < n) (hsz : (pk T s).text.length ≤ 4000) :
  Calls Tryz.prog 115 #[.pointer (some ⟨pb, 0, none⟩)] w fun e w' => e = .returned (.string (bs (pk T s).text)) ∧ PAt B pb mb T A n c (nam T s) w' ∧ Owns w w' (Fp pb mb) (Fp pb mb) := by
 have HK := h_ (peek_any B pb mb n c T A s w h)
 obtain ⟨t, ht⟩ : ∃ t, t = pk T s := ⟨_, rfl⟩
 obtain ⟨y, hy⟩ : ∃ y, y = bs t.text := ⟨_, rfl⟩
 have hys : y.size ≤ 9223372036854775807 := by rw [hy, bs_size, ht]; omega
 rw [← ht] at HK hsz ⊢
 rw [← hy] at HK ⊢
 have HH := h_ h
 have hg0 := hg
 have hlen := h.len
 have HT := h_ ht
 have HY := h_ hy
 clear h hg ht hsz hy
 by_cases hin : y ∈ s.names
 ·have HI := h_ (show nam T s = adv s by unfold nam nm1; rw [← HT.out, ← HY.out, if_pos hin])
  have HZ := h_ (show true = decide (y ∈ s.names) by simp [hin])
  clear hin
  go_enter Tryz.func115, Tryz.ntmps115
  go_wp2_with fail
  refine HK.out.mono ?_
  rintro e w1 ⟨rfl, hb1⟩
  have hbel : Below w1.heap.size w1 (w1.alloc (.cells #[.int .i64 t.kind, .string y, .int .i64 t.pos] tTok)) := (Below.refl _ _).alloc (Nat.le_refl _) _
  have hx := Box.new w1 #[.int .i64 t.kind, .string y, .int .i64 t.pos] tTok
  have h2 := (HH.out.below hb1).below hbel
  have HO := h_ ((Owns.of_below hb1 (Fp pb mb)).trans (Owns.of_below hbel _))
  obtain ⟨W, hW⟩ : ∃ W, w1.alloc (.cells #[.int .i64 t.kind, .string y, .int .i64 t.pos] tTok) = W := ⟨_, rfl⟩
  rw [hW] at h2 HO hx
  obtain ⟨c0, c1, c2, c3, c4, c5, c6⟩ := h2.cells
  have f1 := h2.fz
  have x0 : W.cell? ⟨w1.heap.size, 0, none⟩ = some (.int .i64 t.kind) := hx.cell 0
  have x1 : W.cell? ⟨w1.heap.size, 1, none⟩ = some (.string y) := hx.cell 1
  have x2 : W.cell? ⟨w1.heap.size, 2, none⟩ = some (.int .i64 t.pos) := hx.cell 2
  have hne : w1.heap.size ≠ pb := fun e => by have := (HH.out.below hb1).lt; omega
  have HP := h_ (show ∀ k, PAt B pb mb T A n c (adv s) ((W.drewN k).setCell ⟨pb, 1, none⟩ (.int .i64 ((s.next : Int) + 1))) from fun k => (h2.drewN k).advs hlt)
  have hlook : ∀ k, Sem.run Tryz.prog (Instr.lookup tMB (.map (some mb)) (.string y) false) (W.drewN k) = .ok (.bool true) (W.drewN k) := fun k => MapB.runLook' (h2.drewN k).map y hys true HZ.out
  have hlook0 : Sem.run Tryz.prog (Instr.lookup tMB (.map (some mb)) (.string y) false) W.drew = .ok (.bool true) W.drew := MapB.runLook' (w := W.drew) h2.map y hys true HZ.out
  clear hb1 hbel h2 hx
  go_wp2_with fail
  go_region
  go_wp2
  go_ret
  refine ⟨rfl, ?_, owns_drew (HO.out.trans (owns_set _ ⟨pb, 1, none⟩ _ (.inl rfl)))⟩
  rw [HI.out]
  exact (HP.out 0).drew
 ·obtain ⟨s1, hs1⟩ : ∃ s1, s1 = { s with names := s.names ++ [y] } := ⟨_, rfl⟩
  have hadd : addN s.names y = s1.names := by unfold addN; rw [if_neg hin, hs1]
  have hnl : s1.names.length = s.names.length + 1 := by rw [hs1]; simp
  have e1 : s1.next = s.next := by rw [hs1]
  have HI := h_ (show nam T s = adv (if 4 < s.names.length + 1 then exc s1 t.pos else s1) by unfold nam nm1; rw [← HT.out, ← HY.out, if_neg hin, hs1])
  have HZ := h_ (show false = decide (y ∈ s.names) by simp [hin])
  have HADD := h_ hadd
  have HNL := h_ hnl
  have HE1 := h_ e1
  have HS1 := h_ hs1
  have hgn := hg0
  clear hin hadd hnl e1 hs1
  go_enter Tryz.func115, Tryz.ntmps115
  go_wp2_with fail
  refine HK.out.mono ?_
  rintro e w1 ⟨rfl, hb1⟩
  have hbel : Below w1.heap.size w1 (w1.alloc (.cells #[.int .i64 t.kind, .string y, .int .i64 t.pos] tTok)) := (Below.refl _ _).alloc (Nat.le_refl _) _
  have hx := Box.new w1 #[.int .i64 t.kind, .string y, .int .i64 t.pos] tTok
  have h2 := (HH.out.below hb1).below hbel
  have HO := h_ ((Owns.of_below hb1 (Fp pb mb)).trans (Owns.of_below hbel _))
  obtain ⟨W, hW⟩ : ∃ W, w1.alloc (.cells #[.int .i64 t.kind, .string y, .int .i64 t.pos] tTok) = W := ⟨_, rfl⟩
  rw [hW] at h2 HO hx
  obtain ⟨c0, c1, c2, c3, c4, c5, c6⟩ := h2.cells
  have f1 := h2.fz
  have x0 : W.cell? ⟨w1.heap.size, 0, none⟩ = some (.int .i64 t.kind) := hx.cell 0
  have x1 : W.cell? ⟨w1.heap.size, 1, none⟩ = some (.string y) := hx.cell 1
  have x2 : W.cell? ⟨w1.heap.size, 2, none⟩ = some (.int .i64 t.pos) := hx.cell 2
  have hne : w1.heap.size ≠ pb := fun e => by have := (HH.out.below hb1).lt; omega
  have HB1 := h_ hb1
  obtain ⟨b0, b1, b2, b3, b4, b5, b6⟩ := h2.drew.cells
  have fb := h2.drew.fz
  have hlook0 : Sem.run Tryz.prog (Instr.lookup tMB (.map (some mb)) (.string y) false) W.drew = .ok (.bool false) W.drew := MapB.runLook' (w := W.drew) h2.map y hys false HZ.out
  have H2 := h_ h2.drew
  have HX := h_ (show Box w1 W.drew w1.heap.size #[.int .i64 t.kind, .string y, .int .i64 t.pos] tTok from hx.drewN 1)
  clear hb1 hbel h2 hx
  go_wp2_with fail
  go_region
  obtain ⟨W2, hW2⟩ : ∃ W2, W2 = W.drew := ⟨_, rfl⟩
  rw [← hW2] at H2 HX b0 b1 b2 b3 b4 b5 b6 fb
  rw [← hW2]
  have HO2 := h_ (show Owns w W2 (Fp pb mb) (Fp pb mb) by rw [hW2]; exact owns_drew HO.out)
  clear hW2 c0 c1 c2 c3 c4 c5 c6 f1 x0 x1 x2 hlook0 hW
  have x1 : W2.cell? ⟨w1.heap.size, 1, none⟩ = some (.string y) := HX.out.cell 1
  have hmb : mb < w1.heap.size := (HH.out.below HB1.out).map.lt
  obtain ⟨w3, hrun3, hm3, hg3⟩ := MapB.run' (w := W2.drew) H2.out.map (by omega) y hys
  rw [HADD.out] at hm3
  have h3 : PAt B pb mb T A n c s1 w3 := H2.out.drew.put (by rw [HNL.out]; exact hm3) hg3 HE1.out (by rw [HS1.out]) (by rw [HS1.out]) (by rw [HNL.out, HE1.out]; omega) (by rw [HS1.out]) (by rw [HS1.out])
  have hbx3 : w3.heap[w1.heap.size]? = some (.cells #[.int .i64 t.kind, .string y, .int .i64 t.pos] tTok (0, 0)) := (hg3.block w1.heap.size HX.out.lt (fun e => by have := Option.some.inj e; omega)).trans HX.out.cells
  have z1 : w3.cell? ⟨w1.heap.size, 1, none⟩ = some (.string y) := by simp [World.cell?, hbx3]
  have z2 : w3.cell? ⟨w1.heap.size, 2, none⟩ = some (.int .i64 t.pos) := by simp [World.cell?, hbx3]
  obtain ⟨d0, d1, d2, d3, d4, d5, d6⟩ := h3.cells
  have f3 := h3.fz
  obtain ⟨Z, hZ⟩ : ∃ Z, Z = s.names.length + 1 := ⟨_, rfl⟩
  have hlen3 := MapB.runLen' h3.map Z (by rw [HNL.out, hZ])
  rw [HE1.out] at d1
  rw [← hZ] at HI
  have HO3 := h_ (HO2.out.trans ((owns_drew (Owns.refl W2 _)).trans (owns_grow hg3)))
  have hw1l : w1.heap.size < w3.heap.size := (Array.getElem?_eq_some_iff.1 hbx3).1
  have HF := h_ (show ¬ Fp pb mb w1.heap.size by rintro (e | e) <;> omega)
  have H3 := h_ h3
  clear hm3 hg3 h3 hbx3 hZ hmb hgn
  by_cases h4 : 4 < Z
  ·have HQ := h_ (show nam T s = adv (exc s1 t.pos) by rw [HI.out, if_pos h4])
   have HXC := h_ (exceed_any B pb mb n c T A s1 t.pos w3 H3.out)
   go_wp2_with fail
   go_region
   go_wp2_with fail
   refine HXC.out.mono ?_
   rintro e w4 ⟨rfl, h4', ho4⟩
   obtain ⟨g0, g1, g2, g3, g4, g5, g6⟩ := h4'.cells
   have f4 := h4'.fz
   rw [exc_next, HE1.out] at g1
   have q1 : w4.cell? ⟨w1.heap.size, 1, none⟩ = some (.string y) := (ho4.cell (p := ⟨w1.heap.size, 1, none⟩) hw1l HF.out).trans z1
   have H4 := h_ h4'
   have HO4 := h_ (HO3.out.trans ho4)
   clear h4' ho4
   go_wp2
   go_ret
   refine ⟨rfl, ?_, HO4.out.trans (owns_set _ ⟨pb, 1, none⟩ _ (.inl rfl))⟩
   rw [HQ.out]
   have h5 := H4.out.advs (by rw [exc_next, HE1.out]; exact hlt)
   rw [exc_next, HE1.out] at h5
   exact h5
  ·have HQ := h_ (show nam T s = adv s1 by rw [HI.out, if_neg h4])
   have h4' : Z ≤ 4 := by omega
   clear h4
   go_wp2_with fail
   go_region
   go_wp2
   go_ret
   refine ⟨rfl, ?_, HO3.out.trans (owns_set _ ⟨pb, 1, none⟩ _ (.inl rfl))⟩
   rw [HQ.out]
   have h5 := H3.out.advs (by rw [HE1.out]; exact hlt)
   rw [HE1.out] at h5
   exact h5
end Pa
end Go.Proofs.YteneobpacobpdaaGreatDoor
