/-
  Small laws for the statements of chapter 34.
-/
import Derived.Test.YteneobpacobpdaaGreatDoorHy
import Derived.Test.YteneobpacobpdaaGreatDoorFmW
import Derived.Test.YteneobpacobpdaaGreatDoorFmL
import Derived.Test.YteneobpacobpdaaGreatDoorFmT
import Derived.Test.YteneobpacobpdaaGreatDoorFmG
import Derived.Deep.AppendLies
import Derived.Deep.QuietTactic
import Derived.BigQuiet
import Derived.Lib.SlicesS
import Derived.Test.YteneobpacobpdaaGreatDoorMem
import Derived.Deep.RegionLaw
set_option linter.unusedSimpArgs false
set_option linter.unusedVariables false
set_option maxRecDepth 100000
set_option maxHeartbeats 16000000
namespace Go.Proofs.YteneobpacobpdaaGreatDoor
open Go.RowKit
namespace Fm
theorem sm_of_flat : ∀ (t : Tr) (d : Int), (∀ p ∈ flatF t d, shortT p.1 = true) → Sm t := by
 refine Tr.ind fun h ks ih => ?_
 intro d hp
 have h0 := hp (.mk h ks, d) (by unfold flatF; simp)
 have hL : ∀ (l : List Tr), (∀ k ∈ l, k ∈ ks) → (∀ p ∈ flatL l (d + 1), shortT p.1 = true) → SmL l := by
  intro l
  induction l with
  | nil => intro _ _; unfold SmL; trivial
  | cons a l il =>
   intro hm hq
   unfold flatL at hq
   unfold SmL
   exact ⟨ih a (hm a (by simp)) (d + 1) (fun p hp => hq p (List.mem_append.2 (.inl hp))), il (fun k hk => hm k (by simp [hk])) (fun p hp => hq p (List.mem_append.2 (.inr hp)))⟩
 unfold Sm
 unfold shortT at h0
 simp only [Bool.and_eq_true, decide_eq_true_eq] at h0
 exact ⟨h0.1, h0.2, hL ks (fun _ h => h) (fun p hp' => hp p (by unfold flatF; simp [hp']))⟩
theorem fewB_sm {t : Tr} {n : Int} (h : fewB t n = true) : Sm t := by
 unfold fewB at h
 simp only [Bool.and_eq_true, List.all_eq_true] at h
 exact sm_of_flat t 0 h.2
theorem TreePost.cells {T : Tr} {w w' : World} {e : Ending} (h : TreePost T w e w') : ∃ A1 n1 c1 A2 n2 c2 k neg nm ex rl tr al, e = .returned (.agg #[.int .i64 k, .bool neg, .slice A1 n1 c1, .string nm, .int .i64 ex, .int .i64 rl, .bool tr, .bool al, .slice A2 n2 c2]) ∧ TreeAt w' (Fr w w') T [.int .i64 k, .bool neg, .slice A1 n1 c1, .string nm, .int .i64 ex, .int .i64 rl, .bool tr, .bool al, .slice A2 n2 c2] ∧ Below w.heap.size w w' := by
 obtain ⟨A1, n1, c1, A2, n2, c2, rfl, h1, h2⟩ := h
 exact ⟨A1, n1, c1, A2, n2, c2, _, _, _, _, _, _, _, rfl, h1, h2⟩
theorem TreeAt.nine {w : World} {S : Nat → Prop} {T : Tr} {cs : List Value} (h : TreeAt w S T cs) : ∃ A1 n1 c1 A2 n2 c2 k neg nm ex rl tr al, cs = [.int .i64 k, .bool neg, .slice A1 n1 c1, .string nm, .int .i64 ex, .int .i64 rl, .bool tr, .bool al, .slice A2 n2 c2] := by
 obtain ⟨A1, n1, c1, A2, n, c, xs, rfl, _⟩ := h.named
 exact ⟨A1, n1, c1, A2, n, c, _, _, _, _, _, _, _, rfl⟩
end Fm
end Go.Proofs.YteneobpacobpdaaGreatDoor
namespace Go.Proofs.YteneobpacobpdaaGreatDoor
open Go.RowKit
namespace Fm
attribute [local go_sem] run_store
abbrev tStrs : TypeId := 79
def freeStep (L : List ByteArray) (g : ByteArray → Int) (nm : ByteArray) : List ByteArray := if g nm = 0 ∧ nm ∉ L then L ++ [nm] else L
def FreeJ (B : Nat) (L : List ByteArray) (F : Nat → Prop) (W : World) : Prop :=
 ∃ v, W.heap[B + 3]? = some (.cells #[.map (some (B + 1))] tMI (0, 0)) ∧ W.heap[B + 4]? = some (.cells #[.map (some (B + 2))] tMB (0, 0)) ∧ W.heap[B]? = some (.cells #[v] tStrs (0, 0)) ∧
  W.ownsRow (B + 5) tStr 1 v L.length (L.map Value.string) ∧ MapB W (B + 2) L.length L ∧ F = fun b => b = B ∨ b = B + 2 ∨ b = B + 3 ∨ b = B + 4 ∨ v.ownBlock = some b
abbrev freeCaps (B : Nat) : Array Value := #[.pointer (some ⟨B + 3, 0, none⟩), .pointer (some ⟨B + 4, 0, none⟩), .pointer (some ⟨B, 0, none⟩)]
theorem blk_lt {w : World} {b : Nat} {o : Obj} (h : w.heap[b]? = some o) : b < w.heap.size := (Array.getElem?_eq_some_iff.1 h).1
theorem ownsRow_keep {w w' : World} {base size n : Nat} {e : TypeId} {v : Value} {xs : List Value} (h : w.ownsRow base e size v n xs) (hb : ∀ b, v.ownBlock = some b → w'.heap[b]? = w.heap[b]?) : w'.ownsRow base e size v n xs := by
 refine ⟨h.1, ?_⟩
 rcases h.2 with h0 | ⟨g, cap, cur, hv, hb1, hg, r⟩
 ·exact .inl h0
 ·exact .inr ⟨g, cap, cur, hv, hb1, (hb g (by rw [hv]; rfl)).trans hg, r⟩
theorem FreeJ.lt {B : Nat} {L : List ByteArray} {F : Nat → Prop} {W : World} (h : FreeJ B L F W) : ∀ b, F b → b < W.heap.size := by
 obtain ⟨v, h1, h2, h3, h4, h5, rfl⟩ := h
 intro b hb
 rcases hb with rfl | rfl | rfl | rfl | hb
 ·exact blk_lt h3
 ·exact h5.lt
 ·exact blk_lt h1
 ·exact blk_lt h2
 ·exact (h4.lt b hb).2
theorem FreeJ.keep {B : Nat} {L : List ByteArray} {F : Nat → Prop} {W W' : World} (h : FreeJ B L F W) (hk : ∀ b, F b → W'.heap[b]? = W.heap[b]?) : FreeJ B L F W' := by
 obtain ⟨v, h1, h2, h3, h4, h5, rfl⟩ := h
 exact ⟨v, (hk _ (.inr (.inr (.inl rfl)))).trans h1, (hk _ (.inr (.inr (.inr (.inl rfl))))).trans h2, (hk _ (.inl rfl)).trans h3, ownsRow_keep h4 (fun b hb => hk b (.inr (.inr (.inr (.inr hb))))), h5.keep (hk _ (.inr (.inl rfl))), rfl⟩
theorem infoStr : (Tryz.prog.info? tStr).map (fun i => (i.zero, i.size, i.bytes)) = some (some (.string ⟨#[]⟩), 1, 16) := by kernel_rfl
theorem cell_of_blk {w : World} {b j : Nat} {cs : Array Value} {T : TypeId} {u : Value} (h : w.heap[b]? = some (.cells cs T (0, 0))) (hj : cs[j]? = some u) : w.cell? ⟨b, j, none⟩ = some u := by simp [World.cell?, h, hj]
theorem fz_of_blk {w : World} {b j : Nat} {cs : Array Value} {T : TypeId} (h : w.heap[b]? = some (.cells cs T (0, 0))) : w.frozen? ⟨b, j, none⟩ = false := by simp [World.frozen?, h]
theorem setCell_block (w : World) (b j : Nat) (cs : Array Value) (T : TypeId) (u : Value) (h : w.heap[b]? = some (.cells cs T (0, 0))) : (w.setCell ⟨b, j, none⟩ u).heap[b]? = some (.cells (cs.setIfInBounds j u) T (0, 0)) := by
 simp [World.setCell, Array.getElem?_modify, h]
theorem free1_end {B : Nat} {L : List ByteArray} {F : Nat → Prop} {W w2 w3 : World} {nm : ByteArray} {v : Value} {g3 cap3 : Nat} {o : Obj} (hB : B + 4 < W.heap.size)
  (h1 : W.heap[B + 3]? = some (.cells #[.map (some (B + 1))] tMI (0, 0))) (h2 : W.heap[B + 4]? = some (.cells #[.map (some (B + 2))] tMB (0, 0)))
  (h4 : W.ownsRow (B + 5) tStr 1 v L.length (L.map Value.string)) (hF : F = fun b => b = B ∨ b = B + 2 ∨ b = B + 3 ∨ b = B + 4 ∨ v.ownBlock = some b) (hn : nm ∉ L)
  (hm2 : MapB w2 (B + 2) (L.length + 1) (addN L nm)) (hg2 : W.grownBy w2 (some (B + 2))) (ho3 : w3.ownsRow (B + 5) tStr 1 (.slice (some ⟨g3, 0, none⟩) (L.length + 1) cap3) (L.length + 1) (L.map Value.string ++ [Value.string nm]))
  (hg3 : (w2.alloc o).grownBy w3 v.ownBlock) (hat : v.ownBlock = some g3 ∨ g3 = (w2.alloc o).heap.size) (hb3 : w3.heap[B]? = some (.cells #[v] tStrs (0, 0))) :
  ∃ F', FreeJ B (L ++ [nm]) F' (w3.setCell ⟨B, 0, none⟩ (.slice (some ⟨g3, 0, none⟩) (L.length + 1) cap3)) ∧ Owns W (w3.setCell ⟨B, 0, none⟩ (.slice (some ⟨g3, 0, none⟩) (L.length + 1) cap3)) F F' := by
 have hz2 := hg2.size
 have hz3 := hg3.size
 have hza : (w2.alloc o).heap.size = w2.heap.size + 1 := by simp
 rw [hza] at hat hz3
 have hown : ∀ r, v.ownBlock = some r → B + 5 ≤ r ∧ r < W.heap.size := h4.lt
 have k23 : ∀ b, b < w2.heap.size → v.ownBlock ≠ some b → b ≠ B → (w3.setCell ⟨B, 0, none⟩ (.slice (some ⟨g3, 0, none⟩) (L.length + 1) cap3)).heap[b]? = w2.heap[b]? := fun b hb h hne =>
  (Below.heap_setCell _ _ _ _ hne).trans ((hg3.block b (by omega) (fun e => h e.symm)).trans (Below.heap_alloc _ _ _ hb))
 have kW : ∀ b, b < W.heap.size → v.ownBlock ≠ some b → b ≠ B → b ≠ B + 2 → (w3.setCell ⟨B, 0, none⟩ (.slice (some ⟨g3, 0, none⟩) (L.length + 1) cap3)).heap[b]? = W.heap[b]? := fun b hb h h1 h2 =>
  (k23 b (by omega) h h1).trans (hg2.block b hb (fun e => by injection e with e; omega))
 have hne : ∀ j, j < 5 → v.ownBlock ≠ some (B + j) := fun j hj e => by have := (hown _ e).1; omega
 have hadd : addN L nm = L ++ [nm] := by unfold addN; rw [if_neg hn]
 refine ⟨fun b => b = B ∨ b = B + 2 ∨ b = B + 3 ∨ b = B + 4 ∨ some g3 = some b, ⟨.slice (some ⟨g3, 0, none⟩) (L.length + 1) cap3, ?_, ?_, ?_, ?_, ?_, rfl⟩, ?_⟩
 ·exact (kW (B + 3) (by omega) (hne 3 (by omega)) (by omega) (by omega)).trans h1
 ·exact (kW (B + 4) (by omega) (hne 4 (by omega)) (by omega) (by omega)).trans h2
 ·rw [setCell_block _ _ _ _ _ _ hb3]; rfl
 ·have hl : (L ++ [nm]).length = L.length + 1 := by simp
  have hmp : (L ++ [nm]).map Value.string = L.map Value.string ++ [Value.string nm] := by simp
  rw [hl, hmp]
  refine ownsRow_keep ho3 (fun b hb => Below.heap_setCell _ _ _ _ ?_)
  have := (ho3.lt b hb).1
  show b ≠ B
  omega
 ·rw [hadd] at hm2
  have hl : (L ++ [nm]).length = L.length + 1 := by simp
  rw [hl]
  exact hm2.keep (k23 (B + 2) hm2.lt (hne 2 (by omega)) (by omega))
 ·refine ⟨?_, ?_, ?_, ?_, ?_, ?_⟩
  ·exact hg3.os.trans hg2.os
  ·exact hg3.tape.trans hg2.tape
  ·exact hg3.output.trans hg2.output
  ·simp [World.setCell]; omega
  ·intro b hb hFb
   rw [hF] at hFb
   simp only [not_or] at hFb
   obtain ⟨f1, f2, f3, f4, f5⟩ := hFb
   exact kW b hb f5 f1 f2
  ·intro b hb
   rw [hF]
   rcases hb with e | e | e | e | e
   ·exact .inl (.inl e)
   ·exact .inl (.inr (.inl e))
   ·exact .inl (.inr (.inr (.inl e)))
   ·exact .inl (.inr (.inr (.inr (.inl e))))
   ·injection e with e
    subst e
    rcases hat with h | h
    ·exact .inl (.inr (.inr (.inr (.inr h))))
    ·right; omega
theorem free1_any (B : Nat) (L : List ByteArray) (g : ByteArray → Int) (k : Nat) (F : Nat → Prop) (W : World) (nm : ByteArray) (hnm : nm.size ≤ 9223372036854775807) (hL : L.length < 900000) (hJ : FreeJ B L F W) (hM : MapI W (B + 1) k g) (hF : ¬ F (B + 1)) :
  Calls Tryz.prog 56 (#[.string nm] ++ freeCaps B) W fun e W' => e = .returned (.tuple #[]) ∧ ∃ F', FreeJ B (freeStep L g nm) F' W' ∧ Owns W W' F F' := by
 have hJ0 := hJ
 obtain ⟨v, h1, h2, h3, h4, h5, hFe⟩ := hJ
 have c1 : W.cell? ⟨B + 3, 0, none⟩ = some (.map (some (B + 1))) := cell_of_blk h1 rfl
 have c2 : W.cell? ⟨B + 4, 0, none⟩ = some (.map (some (B + 2))) := cell_of_blk h2 rfl
 have c3 : W.cell? ⟨B, 0, none⟩ = some v := cell_of_blk h3 rfl
 have f3 : W.frozen? ⟨B, 0, none⟩ = false := fz_of_blk h3
 have HM := h_ hM
 have H5 := h_ h5
 have HJ0 := h_ hJ0
 have HF := h_ hF
 show Calls Tryz.prog 56 #[.string nm, .pointer (some ⟨B + 3, 0, none⟩), .pointer (some ⟨B + 4, 0, none⟩), .pointer (some ⟨B, 0, none⟩)] W _
 by_cases hg : g nm = 0
 ·by_cases hn : nm ∈ L
  ·have HST := h_ (show freeStep L g nm = L from by unfold freeStep; rw [if_neg (by simp [hn])])
   have HG := h_ hg
   have HN := h_ hn
   clear hg hn hJ0 hM h5 h1 h2 h3 h4 hFe hF
   go_enter Tryz.func56, Tryz.ntmps56
   go_wp2_with (first
    |(at_lookup; refine wpList_lookupI _ rfl _ _ rfl (B + 1) k g rfl HM.out nm rfl hnm ?_; intro c hc; obtain rfl : c = 0 := hc.out.trans HG.out; clear hc)
    |(at_lookup; refine wpList_lookupB _ rfl _ _ rfl (B + 2) L.length L rfl H5.out nm rfl hnm ?_; intro c hc; obtain rfl : c = true := hc.out.trans (by have := HN.out; simp [this]); clear hc))
   go_end0
   exact ⟨rfl, F, by rw [HST.out]; exact HJ0.out, Owns.refl _ _⟩
  ·have HST := h_ (show freeStep L g nm = L ++ [nm] from by unfold freeStep; rw [if_pos ⟨hg, hn⟩])
   have HG := h_ hg
   have HN := h_ hn
   have H1 := h_ h1
   have H2 := h_ h2
   have H3 := h_ h3
   have H4 := h_ h4
   have HFE := h_ hFe
   have hBW : B < W.heap.size := blk_lt h3
   have hBW5 : B + 4 < W.heap.size := blk_lt h2
   obtain ⟨i0, hi0, hz0, hz1, hz2⟩ := info_parts infoStr
   clear hg hn hJ0 hM h5 h1 h2 h3 h4 hFe hF
   go_enter Tryz.func56, Tryz.ntmps56
   go_wp2_with (first
    |(at_lookup; refine wpList_lookupI _ rfl _ _ rfl (B + 1) k g rfl HM.out nm rfl hnm ?_; intro c hc; obtain rfl : c = 0 := hc.out.trans HG.out; clear hc)
    |(at_lookup; refine wpList_lookupB _ rfl _ _ rfl (B + 2) L.length L rfl H5.out nm rfl hnm ?_; intro c hc; obtain rfl : c = false := hc.out.trans (by have := HN.out; simp [this]); clear hc)
    |(at_mapUpdate; refine wpList_storeB _ rfl _ _ _ rfl (B + 2) L.length L rfl H5.out (by omega) nm rfl hnm rfl ?_; intro w2 hm2 hg2; (have c3' : w2.cell? ⟨B, 0, none⟩ = some v := (World.cell?_of_block (a := ⟨B, 0, none⟩) (hg2.block B hBW (fun e => by injection e with e; omega))).trans c3); (have hz2s := hg2.size); have HM2 := h_ hm2; have HG2 := h_ hg2; clear hm2 hg2 c1 c2 c3 f3)
    |(at_builtin; refine wpList_append_lies _ rfl (.tmp 17) (.tmp 19) 79 rfl (B + 5) tStr i0 _ 1 16 Tryz.underlying79 hi0 hz0 hz1 hz2 rfl (by decide) v L.length (L.map Value.string) rfl ((ownsRow_keep H4.out (fun b hb => HG2.out.block b (H4.out.lt b hb).2 (fun e => by injection e with e; have := (H4.out.lt b hb).1; omega))).alloc _) ⟨w2.heap.size, 0, none⟩ 1 1 [.string nm] rfl rfl (cell_one_new _ _ _) (by intro u hu; simp at hu; rw [hu]; rfl) (by omega) (by unfold maxLen; omega) (by omega) (by simp; omega) _ rfl ?_; intro g3 cap3 w3 ho3 hgrow3 hat3 hlt3; have HO3 := h_ ho3; have HG3 := h_ hgrow3; have HAT := h_ hat3; clear ho3 hgrow3 hat3; (have hown : v.ownBlock ≠ some B := fun e => by have := (H4.out.lt B e).1; omega); (have b3 : w3.heap[B]? = some (.cells #[v] tStrs (0, 0)) := (HG3.out.block B (by simp; omega) (fun e => hown e.symm)).trans ((Below.heap_alloc _ _ _ (by omega)).trans ((HG2.out.block B hBW (fun e => by injection e with e; omega)).trans H3.out))); (have c3'' : w3.cell? ⟨B, 0, none⟩ = some v := cell_of_blk b3 rfl); (have f3'' : w3.frozen? ⟨B, 0, none⟩ = false := fz_of_blk b3); have HB3 := h_ b3; clear b3 hown c3'))
   go_end0
   exact ⟨rfl, by rw [HST.out]; exact free1_end hBW5 H1.out H2.out H4.out HFE.out HN.out HM2.out HG2.out HO3.out HG3.out HAT.out HB3.out⟩
 ·have HST := h_ (show freeStep L g nm = L from by unfold freeStep; rw [if_neg (by simp [hg])])
  have HG := h_ hg
  clear hg hJ0 hM h5 h1 h2 h3 h4 hFe hF
  go_enter Tryz.func56, Tryz.ntmps56
  go_wp2_with (first
   |(at_lookup; refine wpList_lookupI _ rfl _ _ rfl (B + 1) k g rfl HM.out nm rfl hnm ?_; intro c hc; have hc0 : (c == 0) = false := (by have h9 := HG.out; rw [← hc.out] at h9; simpa using h9); clear hc))
  go_end0
  exact ⟨rfl, F, by rw [HST.out]; exact HJ0.out, Owns.refl _ _⟩
theorem freeStep_len (L : List ByteArray) (g : ByteArray → Int) (nm : ByteArray) : (freeStep L g nm).length ≤ L.length + 1 := by unfold freeStep; split <;> simp
theorem cf_free1 (args : Array Value) (w : World) : (callFunc 56 args).run Tryz.prog w = .ok (.enter 56 args) w := by kernel_rfl
theorem free_use (B : Nat) : WUse 56 (freeCaps B) (FreeJ B) (B + 1) freeStep List.length where
 le := freeStep_len
 lt := fun h => h.lt
 keep := fun h _ hk => h.keep hk
 cf := cf_free1
 call := fun L g k F W nm hn hc hJ hM hF => free1_any B L g k F W nm hn hc hJ hM hF
def freeN (f : Fo) : List ByteArray := walkS freeStep f (fun _ => 0) []
def FreePost (L : List ByteArray) (w : World) (e : Ending) (w' : World) : Prop := ∃ v, e = .returned v ∧ w'.ownsRow (w.heap.size + 5) tStr 1 v L.length (L.map Value.string) ∧ Below w.heap.size w w'
theorem free_any (f : Fo) (v : Value) (S : Nat → Prop) (w : World) (hS : ∀ b, S b → b < w.heap.size) (hT : FoAt w S f v) (hf : fsz f ≤ 400000) : Calls Tryz.prog 30 #[v] w (FreePost (freeN f) w) := by
 have hmm := @run_makeMap Tryz.prog
 obtain ⟨W, hW⟩ : ∃ W, ((((w.alloc (.cells #[.slice none 0 0] 79)).alloc (.map #[] 0)).alloc (.map #[] 0)).alloc (.cells #[.map (some (w.heap.size + 1))] 78)).alloc (.cells #[.map (some (w.heap.size + 1 + 1))] 58) = W := ⟨_, rfl⟩
 have hC : Calls Tryz.prog 28 #[v, .map (some (w.heap.size + 1)), .func (.func 56) #[] #[.pointer (some ⟨w.heap.size + 1 + 1 + 1, 0, none⟩), .pointer (some ⟨w.heap.size + 1 + 1 + 1 + 1, 0, none⟩), .pointer (some ⟨w.heap.size, 0, none⟩)]] W (WPost (FreeJ w.heap.size) (w.heap.size + 1) (freeN f) (fun _ => 0) (0 + 2 * fsz f) (fun b => b = w.heap.size ∨ b = w.heap.size + 2 ∨ b = w.heap.size + 3 ∨ b = w.heap.size + 4 ∨ (none : Option Nat) = some b) W) := by
  refine walk_any (free_use w.heap.size) f v S _ [] (fun _ => 0) 0 0 W ?_ ?_ ?_ ?_ ?_ (by omega) (fun _ => ⟨Int.le_refl _, Int.le_refl _⟩) (by omega) (by simp; omega)
  ·intro b hb
   have h1 := hS b hb
   refine ⟨by rw [← hW]; simp; omega, ?_⟩
   rintro ((e | e | e | e | e) | e)
   ·omega
   ·omega
   ·omega
   ·omega
   ·cases e
   ·omega
  ·refine hT.below hS ?_
   rw [← hW]
   exact (((((Below.refl _ w).alloc (Nat.le_refl _) _).alloc (by simp) _).alloc (by simp; omega) _).alloc (by simp; omega) _).alloc (by simp; omega) _
  ·rw [← hW]
   refine ⟨.slice none 0 0, ?_, ?_, ?_, ⟨rfl, .inl ⟨rfl, rfl⟩⟩, ?_, rfl⟩
   ·rw [Below.heap_alloc _ _ _ (by simp)]
    have h := heap_alloc_new (((w.alloc (.cells #[.slice none 0 0] 79)).alloc (.map #[] 0)).alloc (.map #[] 0)) (.cells #[.map (some (w.heap.size + 1))] 78)
    simpa using h
   ·have h := heap_alloc_new ((((w.alloc (.cells #[.slice none 0 0] 79)).alloc (.map #[] 0)).alloc (.map #[] 0)).alloc (.cells #[.map (some (w.heap.size + 1))] 78)) (.cells #[.map (some (w.heap.size + 1 + 1))] 58)
    simpa using h
   ·rw [Below.heap_alloc _ _ _ (by simp; omega), Below.heap_alloc _ _ _ (by simp; omega), Below.heap_alloc _ _ _ (by simp; omega), Below.heap_alloc _ _ _ (by simp)]
    exact heap_alloc_new w _
   ·have h := MapB.made ((w.alloc (.cells #[.slice none 0 0] 79)).alloc (.map #[] 0))
    have e : ((w.alloc (.cells #[.slice none 0 0] 79)).alloc (.map #[] 0)).heap.size = w.heap.size + 2 := by simp
    rw [e] at h
    exact h.keep ((Below.heap_alloc _ _ _ (by simp)).trans (Below.heap_alloc _ _ _ (by simp)))
  ·rw [← hW]
   have h := MapI.made (w.alloc (.cells #[.slice none 0 0] 79))
   have e : (w.alloc (.cells #[.slice none 0 0] 79)).heap.size = w.heap.size + 1 := by simp
   rw [e] at h
   exact h.keep ((Below.heap_alloc _ _ _ (by simp)).trans ((Below.heap_alloc _ _ _ (by simp)).trans (Below.heap_alloc _ _ _ (by simp))))
  ·rintro (e | e | e | e | e)
   ·omega
   ·omega
   ·omega
   ·omega
   ·cases e
 have hbW : Below w.heap.size w W := by
  rw [← hW]
  exact (((((Below.refl _ w).alloc (Nat.le_refl _) _).alloc (by simp) _).alloc (by simp; omega) _).alloc (by simp; omega) _).alloc (by simp; omega) _
 have HC := h_ hC
 have HW := h_ hW
 have HBW := h_ hbW
 clear hC hW hbW hT
 go_enter Tryz.func30, Tryz.ntmps30
 go_wp2_with (go_at_call 28; rw [HW.out]; refine HC.out.mono ?_; intro e w2 hp; obtain ⟨rfl, F', k', hJ', _, _, _, ho⟩ := hp; obtain ⟨v', b1, b2, b3, b4, b5, _⟩ := hJ'; (have c0 : w2.cell? ⟨w.heap.size, 0, none⟩ = some v' := cell_of_blk b3 rfl); have B4 := h_ b4; have HO := h_ ho; clear b1 b2 b3 b4 b5 ho)
 go_ret
 refine ⟨v', rfl, B4.out, HBW.out.trans (HO.out.below HBW.out.size (fun b hb => ?_))⟩
 rcases hb with (e | e | e | e | e) | e
 ·omega
 ·omega
 ·omega
 ·omega
 ·cases e
 ·omega
end Fm
end Go.Proofs.YteneobpacobpdaaGreatDoor
namespace Go.Proofs.YteneobpacobpdaaGreatDoor
open Go.RowKit
namespace Fm
attribute [local go_sem] run_store taQuant_yes taQuant_no taQuant_nil
def StrsAt (w : World) (S : Nat → Prop) (v : Value) (l : List ByteArray) : Prop := SS w S 1 v l.length (l.map Value.string) ∧ l.length ≤ 1000000
theorem StrsAt.keep {w w' : World} {S : Nat → Prop} {v : Value} {l : List ByteArray} (h : StrsAt w S v l) (hk : ∀ p : Addr, S p.block → w'.cell? p = w.cell? p) : StrsAt w' S v l := ⟨h.1.keep hk, h.2⟩
theorem StrsAt.more {w : World} {S S' : Nat → Prop} {v : Value} {l : List ByteArray} (h : StrsAt w S v l) (hS : ∀ b, S b → S' b) : StrsAt w S' v l := ⟨h.1.more hS, h.2⟩
theorem StrsAt.below {w w' : World} {S : Nat → Prop} {B : Nat} {v : Value} {l : List ByteArray} (h : StrsAt w S v l) (hS : ∀ b, S b → b < B) (hb : Below B w w') : StrsAt w' S v l := h.keep (fun _ hp => hb.cell (hS _ hp))
theorem StrsAt.of_own {w : World} {base : Nat} {v : Value} {l : List ByteArray} (h : w.ownsRow base tStr 1 v l.length (l.map Value.string)) (hl : l.length ≤ 1000000) : StrsAt w (fun b => base ≤ b ∧ b < w.heap.size) v l := ⟨SS.of_own h, hl⟩
theorem StrsAt.form {w : World} {S : Nat → Prop} {v : Value} {l : List ByteArray} (h : StrsAt w S v l) : ∃ A c, v = .slice A l.length c := h.1.form
theorem StrsAt.at_ {w : World} {S : Nat → Prop} {A : Option Addr} {n c : Nat} {l : List ByteArray} (h : StrsAt w S (.slice A n c) l) (hn : n = l.length) (h0 : 0 < n) :
  ∃ b o, A = some ⟨b, o, none⟩ ∧ S b ∧ ∀ i x, l[i]? = some x → w.cell? ⟨b, o + i, none⟩ = some (.string x) := by
 subst hn
 obtain ⟨b, o, rfl, hb, hc⟩ := h.1.at_ h0
 exact ⟨b, o, rfl, hb, fun i x hx => hc i _ (by rw [List.getElem?_map, hx]; rfl)⟩
def boundN : Fo → List ByteArray
 | .not f => boundN f
 | .and l r => boundN l ++ boundN r
 | .or l r => boundN l ++ boundN r
 | .implies l r => boundN l ++ boundN r
 | .iff l r => boundN l ++ boundN r
 | .quant _ nm f => nm :: boundN f
 | _ => []
theorem boundN_sub (f : Fo) (h : ∀ a n b, f ≠ .quant a n b) : boundN f = (subF f).flatMap boundN := by
 cases f <;> first | (exact absurd rfl (h _ _ _)) | simp [boundN, subF]
def NQ (v : Value) : Prop := v = .nilIface ∨ ∃ u x, v = .iface u x ∧ u ≠ 99
theorem nq_of {w : World} {S : Nat → Prop} {f : Fo} {v : Value} (hT : FoAt w S f v) (ha : ∀ a n b, f ≠ .quant a n b) : NQ v := by
 cases f with
 | odd =>
  rcases hT with rfl | ⟨u, a, rfl, hu⟩
  ·exact .inl rfl
  ·exact .inr ⟨u, _, rfl, fun e => hu (by rw [e]; decide)⟩
 | truth b => cases hT; exact .inr ⟨_, _, rfl, by decide⟩
 | atom l e r => obtain ⟨vl, vr, rfl, _⟩ := hT; exact .inr ⟨_, _, rfl, by decide⟩
 | quant a n b => exact absurd rfl (ha _ _ _)
 | not f => obtain ⟨vt, rfl, _⟩ := hT; exact .inr ⟨_, _, rfl, by decide⟩
 | and l r => obtain ⟨vl, vr, rfl, _⟩ := hT; exact .inr ⟨_, _, rfl, by decide⟩
 | or l r => obtain ⟨vl, vr, rfl, _⟩ := hT; exact .inr ⟨_, _, rfl, by decide⟩
 | implies l r => obtain ⟨vl, vr, rfl, _⟩ := hT; exact .inr ⟨_, _, rfl, by decide⟩
 | iff l r => obtain ⟨vl, vr, rfl, _⟩ := hT; exact .inr ⟨_, _, rfl, by decide⟩
theorem nq_quant {v : Value} (h : NQ v) (w : World) : (Instr.typeAssert v 24 99 true).run Tryz.prog w = .ok (.tuple #[.agg #[.bool false, .string ⟨#[]⟩, .nilIface], .bool false]) w := by
 rcases h with rfl | ⟨u, x, rfl, hu⟩
 ·exact taQuant_nil w
 ·exact taQuant_no u x w hu
def RowPost (B : Nat) (v : Value) (L : List ByteArray) (w : World) (e : Ending) (w' : World) : Prop :=
 ∃ v', e = .returned v' ∧ w'.ownsRow B tStr 1 v' L.length (L.map Value.string) ∧ Owns w w' (fun b => v.ownBlock = some b) (fun b => v'.ownBlock = some b)
def QuOk (f : Fo) : Prop := ∀ (v x : Value) (S : Nat → Prop) (L : List ByteArray) (B : Nat) (w : World), B ≤ w.heap.size → (∀ b, S b → b < B) → FoAt w S f v → w.ownsRow B tStr 1 x L.length (L.map Value.string) → L.length + fsz f ≤ 900000 →
  Calls Tryz.prog 55 #[v, x] w (RowPost B x (L ++ boundN f) w)
theorem row_slice {w : World} {B n : Nat} {v : Value} {xs : List Value} (h : w.ownsRow B tStr 1 v n xs) : ∃ A c, v = .slice A n c := by
 rcases h.2 with ⟨rfl, h0⟩ | ⟨g, cap, cur, rfl, _⟩
 ·have : n = 0 := by have h1 := h.1; rw [h0] at h1; simp at h1; omega
  subst this; exact ⟨_, _, rfl⟩
 ·exact ⟨_, _, rfl⟩
theorem boundN_le (f : Fo) : (boundN f).length ≤ fsz f := by
 induction f <;> simp [boundN, fsz] <;> omega
theorem owns_append {W w3 : World} {o : Obj} {v : Value} {g3 : Nat} {x3 : Value} (hx : x3.ownBlock = some g3) (hg : (W.alloc o).grownBy w3 v.ownBlock) (hat : v.ownBlock = some g3 ∨ g3 = (W.alloc o).heap.size) : Owns W w3 (fun b => v.ownBlock = some b) (fun b => x3.ownBlock = some b) := by
 have hz : (W.alloc o).heap.size = W.heap.size + 1 := by simp
 have hs := hg.size
 rw [hz] at hat hs
 refine ⟨hg.os, hg.tape, hg.output, by omega, fun b hb hF => (hg.block b (by omega) (fun e => hF e.symm)).trans (Below.heap_alloc _ _ _ hb), fun b hb => ?_⟩
 rw [hx] at hb
 injection hb with hb
 subst hb
 rcases hat with h | h
 ·exact .inl h
 ·right; omega
theorem flat_bound_le (l : List Fo) : (l.flatMap boundN).length ≤ fszL l := by
 induction l with
 | nil => simp
 | cons a l ih => rw [List.flatMap_cons, List.length_append]; unfold fszL; have := boundN_le a; omega
def QRel (B : Nat) (x : Value) (L : List ByteArray) (w wr : World) (s_ : Value) : Prop :=
 wr.ownsRow B tStr 1 s_ L.length (L.map Value.string) ∧ Owns w wr (fun b => x.ownBlock = some b) (fun b => s_.ownBlock = some b)
theorem qu_other (f : Fo) (hq : ∀ a n b, f ≠ .quant a n b) (ih : ∀ k ∈ subF f, QuOk k) : QuOk f := by
 intro v x S L B w hB hS hT hx hL
 have hta := nq_quant (nq_of hT hq)
 obtain ⟨W, hW⟩ : ∃ W, w.alloc (.cells #[.bool false, .string ⟨#[]⟩, .nilIface] 99) = W := ⟨_, rfl⟩
 have hbW : Below w.heap.size w W := by rw [← hW]; exact (Below.refl _ w).alloc (Nat.le_refl _) _
 have hS' : ∀ b, S b → b < w.heap.size := fun b hb => Nat.lt_of_lt_of_le (hS b hb) hB
 have hTW : FoAt W S f v := hT.below hS' hbW
 obtain ⟨vs, hvs, hsub⟩ := parts_any f v S W hTW
 obtain ⟨n, hn⟩ : ∃ n, n = vs.length := ⟨_, rfl⟩
 have hn64 : n ≤ 2 := by rw [hn, hvs.1]; cases f <;> simp [subF]
 have hfs := fszL_sub f
 have HBN := h_ (boundN_sub f hq)
 have IH := h_ ih
 have HVS := h_ hvs
 have HSUB := h_ hsub
 have HN := h_ hn
 have HS := h_ hS
 have HBW := h_ hbW
 have HW := h_ hW
 have HX := h_ hx
 have HO0 := h_ (Owns.of_below hbW (fun b => x.ownBlock = some b))
 clear hW ih hvs hsub hn hT hTW hS hS' hbW hx hq
 go_enter Tryz.func55, Tryz.ntmps55
 go_wp2_with (first
  |(go_at_call 54; rw [HW.out]; refine HSUB.out.mono ?_; intro e w1 hp; obtain ⟨A, c, he, hss, hb1⟩ := hp; rw [← HN.out] at he hss; subst he; have HSS := h_ hss; have HB1 := h_ hb1; clear hss hb1 hta))
 go_loopw [1, 23] (fun s_ a_ wr => ∃ (i : Nat), i ≤ n ∧ a_ = .int .i64 i ∧ QRel B x (L ++ ((subF f).take i).flatMap boundN) w1 wr s_) (fun _ a_ _ => n - (intOf a_).toNat)
 case atStart => exact ⟨0, Nat.zero_le _, rfl, by simpa using ownsRow_keep HX.out (fun b hb => (HB1.out.block b (Nat.lt_of_lt_of_le (HX.out.lt b hb).2 HBW.out.size)).trans (HBW.out.block b (HX.out.lt b hb).2)), Owns.refl _ _⟩
 case round =>
  obtain ⟨i, hi, rfl, hown, ho⟩ := hrel
  by_cases hlt : i < n
  ·have hF : ∀ b, x.ownBlock = some b → b < W.heap.size := fun b hb => Nat.lt_of_lt_of_le (HX.out.lt b hb).2 HBW.out.size
   obtain ⟨kd, y, b, o, hkd, hTk, rfl, hcell⟩ := subF_at HSS.out HVS.out hF ho i hlt HN.out
   have hoW := (Owns.of_below HB1.out (fun b => x.ownBlock = some b)).trans ho
   have hS2 : ∀ b, S b → b < W.heap.size ∧ ¬ x.ownBlock = some b := fun b hb => ⟨by have := HS.out b hb; have := HBW.out.size; omega, fun h => by have h1 := (HX.out.lt b h).1; have h2 := HS.out b hb; omega⟩
   have hBr : B ≤ wr.heap.size := by have := HBW.out.size; have := hoW.size; omega
   have h1 := flat_bound_le ((subF f).take i)
   have h2 := fszL_take (subF f) (i + 1)
   have h3 := fszL_succ (subF f) i kd hkd
   have hC := IH.out kd (mem_at hkd) y u1 S _ B wr hBr HS.out (hTk.owns hoW hS2) hown (by rw [List.length_append]; omega)
   have HC := h_ hC
   have HFL := h_ (show L ++ ((subF f).take (i + 1)).flatMap boundN = (L ++ ((subF f).take i).flatMap boundN) ++ boundN kd by rw [flat_take boundN hkd, List.append_assoc])
   have HO := h_ ho
   clear hC hkd hTk hoW hS2 hF h1 h2 h3 ho hown hBr
   go_wp2_with (first | (go_at_call 55; refine HC.out.mono ?_; intro e w2 hp; obtain ⟨v', rfl, hv', ho'⟩ := hp; have HV := h_ hv'; have HO' := h_ ho'; clear hv' ho'))
   go_roundw
   case rel =>
    exact ⟨i + 1, by omega, by go_num, by rw [HFL.out]; exact HV.out, HO.out.trans HO'.out⟩
   case measure => simp [intOf]; omega
  ·have HOW := h_ hown
   have HO := h_ ho
   have HI := h_ (show (subF f).take i = subF f from List.take_of_length_le (by rw [← HVS.out.1, ← HN.out]; omega))
   clear hown ho
   go_wp2
   go_ret
   have hown := HOW.out
   rw [HI.out, ← HBN.out] at hown
   exact ⟨u1, rfl, hown, ((Owns.of_below HBW.out _).trans (Owns.of_below HB1.out _)).trans HO.out⟩
theorem qu_quant (all : Bool) (nm : ByteArray) (f : Fo) (ih : QuOk f) : QuOk (.quant all nm f) := by
 intro v x S L B w hB hS hT hx hL
 obtain ⟨vf, rfl, hnm, hf⟩ := hT
 show Calls Tryz.prog 55 #[.iface 99 (.agg #[.bool all, .string nm, vf]), x] w _
 obtain ⟨A0, c0, rfl⟩ := row_slice hx
 obtain ⟨W, hW⟩ : ∃ W, w.alloc (.cells #[.bool all, .string nm, vf] 99) = W := ⟨_, rfl⟩
 have hy : Box w W w.heap.size #[.bool all, .string nm, vf] 99 := by rw [← hW]; exact Box.new w _ _
 have s1 : W.cell? ⟨w.heap.size, 1, none⟩ = some (.string nm) := hy.cell 1
 have hc0 := hf.one
 have hS' : ∀ b, S b → b < w.heap.size := fun b hb => Nat.lt_of_lt_of_le (hS b hb) hB
 have hW1 : w.heap.size < W.heap.size := hy.lt
 have HT := h_ (hf.below hS' hy.below)
 have HX := h_ (ownsRow_keep hx (fun b hb => hy.below.block b (hx.lt b hb).2))
 have HX0 := h_ hx
 have HY := h_ hy
 have HS := h_ hS
 have IH := h_ ih
 have hl1 : L.length + fsz f + 1 ≤ 900000 := by unfold fsz at hL; omega
 obtain ⟨i0, hi0, hz0, hz1, hz2⟩ := info_parts infoStr
 clear hx hy hS hS' hf ih hL
 go_enter Tryz.func55, Tryz.ntmps55
 go_wp2_with (first
  |(at_builtin; refine wpList_append_lies _ rfl (.tmp 15) (.tmp 18) 79 rfl B tStr i0 _ 1 16 Tryz.underlying79 hi0 hz0 hz1 hz2 rfl (by decide) (.slice A0 L.length c0) L.length (L.map Value.string) rfl (HX.out.alloc _) ⟨W.heap.size, 0, none⟩ 1 1 [.string nm] rfl rfl (cell_one_new _ _ _) (by intro u hu; simp at hu; rw [hu]; rfl) (by omega) (by unfold maxLen; omega) (by omega) (by simp; omega) _ rfl ?_; intro g3 cap3 w3 ho3 hgrow3 hat3 hlt3; have HO3 := h_ ho3; have HG3 := h_ hgrow3; have HAT := h_ hat3; clear ho3 hgrow3 hat3 hW)
  |(go_at_call 54; refine (parts_Quant all nm vf _ hc0).mono ?_; intro e w4 hp; obtain ⟨A, n4, rfl, hss, hb4⟩ := hp; have HSS := h_ hss; have HB4 := h_ hb4; clear hss hb4))
 obtain ⟨b, o, rfl, hb, hcell⟩ := HSS.out.at_ (by simp)
 have hc3 : w4.cell? ⟨b, o, none⟩ = some vf := hcell 0 vf rfl
 have ho3 : Owns W w3 (fun b => (Value.slice A0 L.length c0).ownBlock = some b) (fun b => (Value.slice (some ⟨g3, 0, none⟩) (L.length + 1) cap3).ownBlock = some b) := owns_append rfl HG3.out HAT.out
 have ho4 := ho3.trans (Owns.of_below HB4.out _)
 have hS2 : ∀ b, S b → b < W.heap.size ∧ ¬ (Value.slice A0 L.length c0).ownBlock = some b := fun b hb => ⟨by have := HS.out b hb; omega, fun h => by have h1 := (HX0.out.lt b h).1; have h2 := HS.out b hb; omega⟩
 have hlen : (L ++ [nm]).length = L.length + 1 := by simp
 have hmp : (L ++ [nm]).map Value.string = L.map Value.string ++ [Value.string nm] := by simp
 have hC := IH.out vf (.slice (some ⟨g3, 0, none⟩) (L.length + 1) cap3) S (L ++ [nm]) B w4 (by have := ho4.size; omega) HS.out (HT.out.owns ho4 hS2) (by rw [hlen, hmp]; exact ownsRow_keep HO3.out (fun b hb => HB4.out.block b (HO3.out.lt b hb).2)) (by rw [hlen]; omega)
 have HC := h_ hC
 have HO4 := h_ ho4
 have HFL := h_ (show (L ++ [nm]) ++ boundN f = L ++ boundN (.quant all nm f) by simp [boundN])
 clear hC ho4 ho3 hS2 hlen hmp hcell hb
 refine wp_loop_rounds 2 ?_
 rw [rounds_succ]
 go_wp2_with (first | (go_at_call 55; refine HC.out.mono ?_; intro e w5 hp; obtain ⟨v', rfl, hv', ho'⟩ := hp; have HV := h_ hv'; have HO' := h_ ho'; clear hv' ho'))
 rw [rounds_succ]
 go_wp2
 go_ret
 have hv := HV.out
 rw [HFL.out] at hv
 exact ⟨v', rfl, hv, ((Owns.of_below HY.out.below _).trans HO4.out).trans HO'.out⟩
theorem qu_any : ∀ f, QuOk f := by
 refine Fo.ind fun f ih => ?_
 by_cases hq : ∃ a n b, f = .quant a n b
 ·obtain ⟨a, n, b, rfl⟩ := hq; exact qu_quant a n b (ih b (by simp [subF]))
 ·exact qu_other f (fun a n b h => hq ⟨a, n, b, h⟩) ih
theorem bound_any (f : Fo) (v : Value) (S : Nat → Prop) (w : World) (hS : ∀ b, S b → b < w.heap.size) (hT : FoAt w S f v) (hf : fsz f ≤ 900000) :
  Calls Tryz.prog 29 #[v] w fun e w' => ∃ v', e = .returned v' ∧ w'.ownsRow w.heap.size tStr 1 v' (boundN f).length ((boundN f).map Value.string) ∧ Below w.heap.size w w' := by
 have HC := h_ (qu_any f v (.slice none 0 0) S [] w.heap.size w (Nat.le_refl _) hS hT ⟨rfl, .inl ⟨rfl, rfl⟩⟩ (by simp; omega))
 clear hT
 go_enter Tryz.func29, Tryz.ntmps29
 go_wp2_with (go_at_call 55; refine HC.out.mono ?_; intro e w1 hp; obtain ⟨v', rfl, hv', ho'⟩ := hp; have HV := h_ hv'; have HO' := h_ ho'; clear hv' ho')
 go_ret
 exact ⟨v', rfl, HV.out, HO'.out.below (Nat.le_refl _) (fun b hb => by cases hb)⟩
end Fm
end Go.Proofs.YteneobpacobpdaaGreatDoor
namespace Go.Proofs.YteneobpacobpdaaGreatDoor
open Go.RowKit
namespace Fm
attribute [local go_sem] run_store
end Fm
end Go.Proofs.YteneobpacobpdaaGreatDoor
namespace Go.Proofs.YteneobpacobpdaaGreatDoor
open Go.RowKit
namespace Fm
attribute [local go_sem] run_store
theorem row_form {w : World} {B n size : Nat} {e : TypeId} {v : Value} {xs : List Value} (hsz : 0 < size) (h : w.ownsRow B e size v n xs) : ∃ A c, v = .slice A n c := by
 rcases h.2 with ⟨rfl, h0⟩ | ⟨g, cap, cur, rfl, _⟩
 ·have : n = 0 := by
   have h1 := h.1; rw [h0] at h1; simp at h1
   rcases h1 with h1 | h1 <;> omega
  subst this; exact ⟨_, _, rfl⟩
 ·exact ⟨_, _, rfl⟩
end Fm
end Go.Proofs.YteneobpacobpdaaGreatDoor
