/-
  Small laws for the statements of chapter 34.
-/
import Derived.Test.YtkjbfomokdjbnaaDoorFmW
import Derived.Test.YtkjbfomokdjbnaaDoorFmL
import Derived.Test.YtkjbfomokdjbnaaDoorFmT
import Derived.Test.YtkjbfomokdjbnaaDoorFmG
import Derived.Deep.AppendLies
import Derived.Deep.QuietTactic
import Derived.BigQuiet
import Derived.Lib.SlicesS
import Derived.Test.YtkjbfomokdjbnaaDoorMem
import Derived.Deep.RegionLaw
namespace Go.Proofs.YtkjbfomokdjbnaaDoor
open Go.RowKit
set_option linter.unusedSimpArgs false
set_option linter.unusedVariables false
namespace Fm
theorem sm_of_flat : ∀ (t : Tr) (d : Int), (∀ p ∈ flatF t d, shortT p.1 = true) → Sm t := by
  refine Tr.ind fun h ks ih => ?_
  intro d hp
  have h0 := hp (.mk h ks, d) (by unfold flatF; simp)
  have hL : ∀ (l : List Tr), (∀ k ∈ l, k ∈ ks) → (∀ p ∈ flatL l (d + 1), shortT p.1 = true) → SmL l := by
    intro l
    induction l with
    | nil => intro _ _; unfold SmL; trivial
    | cons a l il =>
      intro hm hq
      unfold flatL at hq
      unfold SmL
      exact ⟨ih a (hm a (by simp)) (d + 1) (fun p hp => hq p (List.mem_append.2 (.inl hp))), il (fun k hk => hm k (by simp [hk])) (fun p hp => hq p (List.mem_append.2 (.inr hp)))⟩
  unfold Sm
  unfold shortT at h0
  simp only [Bool.and_eq_true, decide_eq_true_eq] at h0
  exact ⟨h0.1, h0.2, hL ks (fun _ h => h) (fun p hp' => hp p (by unfold flatF; simp [hp']))⟩
theorem fewB_sm {t : Tr} {n : Int} (h : fewB t n = true) : Sm t := by
  unfold fewB at h
  simp only [Bool.and_eq_true, List.all_eq_true] at h
  exact sm_of_flat t 0 h.2
theorem TreePost.cells {T : Tr} {w w' : World} {e : Ending} (h : TreePost T w e w') : ∃ A1 n1 c1 A2 n2 c2 k neg nm ex rl tr al, e = .returned (.agg #[.int .i64 k, .bool neg, .slice A1 n1 c1, .string nm, .int .i64 ex, .int .i64 rl, .bool tr, .bool al, .slice A2 n2 c2]) ∧ TreeAt w' (Fr w w') T [.int .i64 k, .bool neg, .slice A1 n1 c1, .string nm, .int .i64 ex, .int .i64 rl, .bool tr, .bool al, .slice A2 n2 c2] ∧ Below w.heap.size w w' := by
  obtain ⟨A1, n1, c1, A2, n2, c2, rfl, h1, h2⟩ := h
  exact ⟨A1, n1, c1, A2, n2, c2, _, _, _, _, _, _, _, rfl, h1, h2⟩
theorem TreeAt.nine {w : World} {S : Nat → Prop} {T : Tr} {cs : List Value} (h : TreeAt w S T cs) : ∃ A1 n1 c1 A2 n2 c2 k neg nm ex rl tr al, cs = [.int .i64 k, .bool neg, .slice A1 n1 c1, .string nm, .int .i64 ex, .int .i64 rl, .bool tr, .bool al, .slice A2 n2 c2] := by
  obtain ⟨A1, n1, c1, A2, n, c, xs, rfl, _⟩ := h.named
  exact ⟨A1, n1, c1, A2, n, c, _, _, _, _, _, _, _, rfl⟩
end Fm
end Go.Proofs.YtkjbfomokdjbnaaDoor

/-
  formula.Free: the names that occur free.
-/
namespace Go.Proofs.YtkjbfomokdjbnaaDoor
open Go.RowKit
set_option linter.unusedSimpArgs false
set_option linter.unusedVariables false
namespace Fm
attribute [local go_sem] run_store

abbrev tStrs : TypeId := 65
def freeStep (L : List ByteArray) (g : ByteArray → Int) (nm : ByteArray) : List ByteArray := if g nm = 0 ∧ nm ∉ L then L ++ [nm] else L
/-- what the closure of Free holds: the blocks from B on -/
def FreeJ (B : Nat) (L : List ByteArray) (F : Nat → Prop) (W : World) : Prop :=
  ∃ v, W.heap[B + 3]? = some (.cells #[.map (some (B + 1))] tMI (0, 0)) ∧ W.heap[B + 4]? = some (.cells #[.map (some (B + 2))] tMB (0, 0)) ∧ W.heap[B]? = some (.cells #[v] tStrs (0, 0)) ∧
    W.ownsRow (B + 5) tStr 1 v L.length (L.map Value.string) ∧ MapB W (B + 2) L.length L ∧ F = fun b => b = B ∨ b = B + 2 ∨ b = B + 3 ∨ b = B + 4 ∨ v.ownBlock = some b
abbrev freeCaps (B : Nat) : Array Value := #[.pointer (some ⟨B + 3, 0, none⟩), .pointer (some ⟨B + 4, 0, none⟩), .pointer (some ⟨B, 0, none⟩)]
theorem blk_lt {w : World} {b : Nat} {o : Obj} (h : w.heap[b]? = some o) : b < w.heap.size := (Array.getElem?_eq_some_iff.1 h).1
theorem ownsRow_keep {w w' : World} {base size n : Nat} {e : TypeId} {v : Value} {xs : List Value} (h : w.ownsRow base e size v n xs) (hb : ∀ b, v.ownBlock = some b → w'.heap[b]? = w.heap[b]?) : w'.ownsRow base e size v n xs := by
  refine ⟨h.1, ?_⟩
  rcases h.2 with h0 | ⟨g, cap, cur, hv, hb1, hg, r⟩
  · exact .inl h0
  · exact .inr ⟨g, cap, cur, hv, hb1, (hb g (by rw [hv]; rfl)).trans hg, r⟩
theorem FreeJ.lt {B : Nat} {L : List ByteArray} {F : Nat → Prop} {W : World} (h : FreeJ B L F W) : ∀ b, F b → b < W.heap.size := by
  obtain ⟨v, h1, h2, h3, h4, h5, rfl⟩ := h
  intro b hb
  rcases hb with rfl | rfl | rfl | rfl | hb
  · exact blk_lt h3
  · exact h5.lt
  · exact blk_lt h1
  · exact blk_lt h2
  · exact (h4.lt b hb).2
theorem FreeJ.keep {B : Nat} {L : List ByteArray} {F : Nat → Prop} {W W' : World} (h : FreeJ B L F W) (hk : ∀ b, F b → W'.heap[b]? = W.heap[b]?) : FreeJ B L F W' := by
  obtain ⟨v, h1, h2, h3, h4, h5, rfl⟩ := h
  exact ⟨v, (hk _ (.inr (.inr (.inl rfl)))).trans h1, (hk _ (.inr (.inr (.inr (.inl rfl))))).trans h2, (hk _ (.inl rfl)).trans h3, ownsRow_keep h4 (fun b hb => hk b (.inr (.inr (.inr (.inr hb))))), h5.keep (hk _ (.inr (.inl rfl))), rfl⟩
theorem infoStr : (Tryd.prog.info? tStr).map (fun i => (i.zero, i.size, i.bytes)) = some (some (.string ⟨#[]⟩), 1, 16) := by kernel_rfl
theorem cell_of_blk {w : World} {b j : Nat} {cs : Array Value} {T : TypeId} {u : Value} (h : w.heap[b]? = some (.cells cs T (0, 0))) (hj : cs[j]? = some u) : w.cell? ⟨b, j, none⟩ = some u := by simp [World.cell?, h, hj]
theorem fz_of_blk {w : World} {b j : Nat} {cs : Array Value} {T : TypeId} (h : w.heap[b]? = some (.cells cs T (0, 0))) : w.frozen? ⟨b, j, none⟩ = false := by simp [World.frozen?, h]

theorem setCell_block (w : World) (b j : Nat) (cs : Array Value) (T : TypeId) (u : Value) (h : w.heap[b]? = some (.cells cs T (0, 0))) : (w.setCell ⟨b, j, none⟩ u).heap[b]? = some (.cells (cs.setIfInBounds j u) T (0, 0)) := by
  simp [World.setCell, Array.getElem?_modify, h]
theorem free1_end {B : Nat} {L : List ByteArray} {F : Nat → Prop} {W w2 w3 : World} {nm : ByteArray} {v : Value} {g3 cap3 : Nat} {o : Obj} (hB : B + 4 < W.heap.size)
    (h1 : W.heap[B + 3]? = some (.cells #[.map (some (B + 1))] tMI (0, 0))) (h2 : W.heap[B + 4]? = some (.cells #[.map (some (B + 2))] tMB (0, 0)))
    (h4 : W.ownsRow (B + 5) tStr 1 v L.length (L.map Value.string)) (hF : F = fun b => b = B ∨ b = B + 2 ∨ b = B + 3 ∨ b = B + 4 ∨ v.ownBlock = some b) (hn : nm ∉ L)
    (hm2 : MapB w2 (B + 2) (L.length + 1) (addN L nm)) (hg2 : W.grownBy w2 (some (B + 2))) (ho3 : w3.ownsRow (B + 5) tStr 1 (.slice (some ⟨g3, 0, none⟩) (L.length + 1) cap3) (L.length + 1) (L.map Value.string ++ [Value.string nm]))
    (hg3 : (w2.alloc o).grownBy w3 v.ownBlock) (hat : v.ownBlock = some g3 ∨ g3 = (w2.alloc o).heap.size) (hb3 : w3.heap[B]? = some (.cells #[v] tStrs (0, 0))) :
    ∃ F', FreeJ B (L ++ [nm]) F' (w3.setCell ⟨B, 0, none⟩ (.slice (some ⟨g3, 0, none⟩) (L.length + 1) cap3)) ∧ Owns W (w3.setCell ⟨B, 0, none⟩ (.slice (some ⟨g3, 0, none⟩) (L.length + 1) cap3)) F F' := by
  have hz2 := hg2.size
  have hz3 := hg3.size
  have hza : (w2.alloc o).heap.size = w2.heap.size + 1 := by simp
  rw [hza] at hat hz3
  have hown : ∀ r, v.ownBlock = some r → B + 5 ≤ r ∧ r < W.heap.size := h4.lt
  have k23 : ∀ b, b < w2.heap.size → v.ownBlock ≠ some b → b ≠ B → (w3.setCell ⟨B, 0, none⟩ (.slice (some ⟨g3, 0, none⟩) (L.length + 1) cap3)).heap[b]? = w2.heap[b]? := fun b hb h hne =>
    (Below.heap_setCell _ _ _ _ hne).trans ((hg3.block b (by omega) (fun e => h e.symm)).trans (Below.heap_alloc _ _ _ hb))
  have kW : ∀ b, b < W.heap.size → v.ownBlock ≠ some b → b ≠ B → b ≠ B + 2 → (w3.setCell ⟨B, 0, none⟩ (.slice (some ⟨g3, 0, none⟩) (L.length + 1) cap3)).heap[b]? = W.heap[b]? := fun b hb h h1 h2 =>
    (k23 b (by omega) h h1).trans (hg2.block b hb (fun e => by injection e with e; omega))
  have hne : ∀ j, j < 5 → v.ownBlock ≠ some (B + j) := fun j hj e => by have := (hown _ e).1; omega
  have hadd : addN L nm = L ++ [nm] := by unfold addN; rw [if_neg hn]
  refine ⟨fun b => b = B ∨ b = B + 2 ∨ b = B + 3 ∨ b = B + 4 ∨ some g3 = some b, ⟨.slice (some ⟨g3, 0, none⟩) (L.length + 1) cap3, ?_, ?_, ?_, ?_, ?_, rfl⟩, ?_⟩
  · exact (kW (B + 3) (by omega) (hne 3 (by omega)) (by omega) (by omega)).trans h1
  · exact (kW (B + 4) (by omega) (hne 4 (by omega)) (by omega) (by omega)).trans h2
  · rw [setCell_block _ _ _ _ _ _ hb3]; rfl
  · have hl : (L ++ [nm]).length = L.length + 1 := by simp
    have hmp : (L ++ [nm]).map Value.string = L.map Value.string ++ [Value.string nm] := by simp
    rw [hl, hmp]
    refine ownsRow_keep ho3 (fun b hb => Below.heap_setCell _ _ _ _ ?_)
    have := (ho3.lt b hb).1
    show b ≠ B
    omega
  · rw [hadd] at hm2
    have hl : (L ++ [nm]).length = L.length + 1 := by simp
    rw [hl]
    exact hm2.keep (k23 (B + 2) hm2.lt (hne 2 (by omega)) (by omega))
  · refine ⟨?_, ?_, ?_, ?_, ?_, ?_⟩
    · exact hg3.os.trans hg2.os
    · exact hg3.tape.trans hg2.tape
    · exact hg3.output.trans hg2.output
    · simp [World.setCell]; omega
    · intro b hb hFb
      rw [hF] at hFb
      simp only [not_or] at hFb
      obtain ⟨f1, f2, f3, f4, f5⟩ := hFb
      exact kW b hb f5 f1 f2
    · intro b hb
      rw [hF]
      rcases hb with e | e | e | e | e
      · exact .inl (.inl e)
      · exact .inl (.inr (.inl e))
      · exact .inl (.inr (.inr (.inl e)))
      · exact .inl (.inr (.inr (.inr (.inl e))))
      · injection e with e
        subst e
        rcases hat with h | h
        · exact .inl (.inr (.inr (.inr (.inr h))))
        · right; omega

set_option maxRecDepth 100000 in
set_option maxHeartbeats 2000000 in
theorem free1_any (B : Nat) (L : List ByteArray) (g : ByteArray → Int) (k : Nat) (F : Nat → Prop) (W : World) (nm : ByteArray) (hnm : nm.size ≤ 9223372036854775807) (hL : L.length < 900000) (hJ : FreeJ B L F W) (hM : MapI W (B + 1) k g) (hF : ¬ F (B + 1)) :
    Calls Tryd.prog 43 (#[.string nm] ++ freeCaps B) W fun e W' => e = .returned (.tuple #[]) ∧ ∃ F', FreeJ B (freeStep L g nm) F' W' ∧ Owns W W' F F' := by
  have hJ0 := hJ
  obtain ⟨v, h1, h2, h3, h4, h5, hFe⟩ := hJ
  have c1 : W.cell? ⟨B + 3, 0, none⟩ = some (.map (some (B + 1))) := cell_of_blk h1 rfl
  have c2 : W.cell? ⟨B + 4, 0, none⟩ = some (.map (some (B + 2))) := cell_of_blk h2 rfl
  have c3 : W.cell? ⟨B, 0, none⟩ = some v := cell_of_blk h3 rfl
  have f3 : W.frozen? ⟨B, 0, none⟩ = false := fz_of_blk h3
  have HM := Lib.hid hM
  have H5 := Lib.hid h5
  have HJ0 := Lib.hid hJ0
  have HF := Lib.hid hF
  show Calls Tryd.prog 43 #[.string nm, .pointer (some ⟨B + 3, 0, none⟩), .pointer (some ⟨B + 4, 0, none⟩), .pointer (some ⟨B, 0, none⟩)] W _
  by_cases hg : g nm = 0
  · by_cases hn : nm ∈ L
    · have HST := Lib.hid (show freeStep L g nm = L from by unfold freeStep; rw [if_neg (by simp [hn])])
      have HG := Lib.hid hg
      have HN := Lib.hid hn
      clear hg hn hJ0 hM h5 h1 h2 h3 h4 hFe hF
      go_enter Tryd.func43, Tryd.ntmps43
      go_wp2_with (first
        | (at_lookup; refine wpList_lookupI _ rfl _ _ rfl (B + 1) k g rfl HM.out nm rfl hnm ?_; intro c hc; obtain rfl : c = 0 := hc.out.trans HG.out; clear hc)
        | (at_lookup; refine wpList_lookupB _ rfl _ _ rfl (B + 2) L.length L rfl H5.out nm rfl hnm ?_; intro c hc; obtain rfl : c = true := hc.out.trans (by have := HN.out; simp [this]); clear hc))
      go_end0
      exact ⟨rfl, F, by rw [HST.out]; exact HJ0.out, Owns.refl _ _⟩
    · have HST := Lib.hid (show freeStep L g nm = L ++ [nm] from by unfold freeStep; rw [if_pos ⟨hg, hn⟩])
      have HG := Lib.hid hg
      have HN := Lib.hid hn
      have H1 := Lib.hid h1
      have H2 := Lib.hid h2
      have H3 := Lib.hid h3
      have H4 := Lib.hid h4
      have HFE := Lib.hid hFe
      have hBW : B < W.heap.size := blk_lt h3
      have hBW5 : B + 4 < W.heap.size := blk_lt h2
      obtain ⟨i0, hi0, hz0, hz1, hz2⟩ := info_parts infoStr
      clear hg hn hJ0 hM h5 h1 h2 h3 h4 hFe hF
      go_enter Tryd.func43, Tryd.ntmps43
      go_wp2_with (first
        | (at_lookup; refine wpList_lookupI _ rfl _ _ rfl (B + 1) k g rfl HM.out nm rfl hnm ?_; intro c hc; obtain rfl : c = 0 := hc.out.trans HG.out; clear hc)
        | (at_lookup; refine wpList_lookupB _ rfl _ _ rfl (B + 2) L.length L rfl H5.out nm rfl hnm ?_; intro c hc; obtain rfl : c = false := hc.out.trans (by have := HN.out; simp [this]); clear hc)
        | (at_mapUpdate; refine wpList_storeB _ rfl _ _ _ rfl (B + 2) L.length L rfl H5.out (by omega) nm rfl hnm rfl ?_; intro w2 hm2 hg2; (have c3' : w2.cell? ⟨B, 0, none⟩ = some v := (World.cell?_of_block (a := ⟨B, 0, none⟩) (hg2.block B hBW (fun e => by injection e with e; omega))).trans c3); (have hz2s := hg2.size); have HM2 := Lib.hid hm2; have HG2 := Lib.hid hg2; clear hm2 hg2 c1 c2 c3 f3)
        | (at_builtin; refine wpList_append_lies _ rfl (.tmp 17) (.tmp 19) 65 rfl (B + 5) tStr i0 _ 1 16 Tryd.underlying65 hi0 hz0 hz1 hz2 rfl (by decide) v L.length (L.map Value.string) rfl ((ownsRow_keep H4.out (fun b hb => HG2.out.block b (H4.out.lt b hb).2 (fun e => by injection e with e; have := (H4.out.lt b hb).1; omega))).alloc _) ⟨w2.heap.size, 0, none⟩ 1 1 [.string nm] rfl rfl (cell_one_new _ _ _) (by intro u hu; simp at hu; rw [hu]; rfl) (by omega) (by unfold maxLen; omega) (by omega) (by simp; omega) _ rfl ?_; intro g3 cap3 w3 ho3 hgrow3 hat3 hlt3; have HO3 := Lib.hid ho3; have HG3 := Lib.hid hgrow3; have HAT := Lib.hid hat3; clear ho3 hgrow3 hat3; (have hown : v.ownBlock ≠ some B := fun e => by have := (H4.out.lt B e).1; omega); (have b3 : w3.heap[B]? = some (.cells #[v] tStrs (0, 0)) := (HG3.out.block B (by simp; omega) (fun e => hown e.symm)).trans ((Below.heap_alloc _ _ _ (by omega)).trans ((HG2.out.block B hBW (fun e => by injection e with e; omega)).trans H3.out))); (have c3'' : w3.cell? ⟨B, 0, none⟩ = some v := cell_of_blk b3 rfl); (have f3'' : w3.frozen? ⟨B, 0, none⟩ = false := fz_of_blk b3); have HB3 := Lib.hid b3; clear b3 hown c3'))
      go_end0
      exact ⟨rfl, by rw [HST.out]; exact free1_end hBW5 H1.out H2.out H4.out HFE.out HN.out HM2.out HG2.out HO3.out HG3.out HAT.out HB3.out⟩
  · have HST := Lib.hid (show freeStep L g nm = L from by unfold freeStep; rw [if_neg (by simp [hg])])
    have HG := Lib.hid hg
    clear hg hJ0 hM h5 h1 h2 h3 h4 hFe hF
    go_enter Tryd.func43, Tryd.ntmps43
    go_wp2_with (first
      | (at_lookup; refine wpList_lookupI _ rfl _ _ rfl (B + 1) k g rfl HM.out nm rfl hnm ?_; intro c hc; have hc0 : (c == 0) = false := (by have h9 := HG.out; rw [← hc.out] at h9; simpa using h9); clear hc))
    go_end0
    exact ⟨rfl, F, by rw [HST.out]; exact HJ0.out, Owns.refl _ _⟩

theorem freeStep_len (L : List ByteArray) (g : ByteArray → Int) (nm : ByteArray) : (freeStep L g nm).length ≤ L.length + 1 := by unfold freeStep; split <;> simp
theorem cf_free1 (args : Array Value) (w : World) : (callFunc 43 args).run Tryd.prog w = .ok (.enter 43 args) w := by kernel_rfl
theorem free_use (B : Nat) : WUse 43 (freeCaps B) (FreeJ B) (B + 1) freeStep List.length where
  le := freeStep_len
  lt := fun h => h.lt
  keep := fun h _ hk => h.keep hk
  cf := cf_free1
  call := fun L g k F W nm hn hc hJ hM hF => free1_any B L g k F W nm hn hc hJ hM hF
/-- the names that occur free -/
def freeN (f : Fo) : List ByteArray := walkS freeStep f (fun _ => 0) []
def FreePost (L : List ByteArray) (w : World) (e : Ending) (w' : World) : Prop := ∃ v, e = .returned v ∧ w'.ownsRow (w.heap.size + 5) tStr 1 v L.length (L.map Value.string) ∧ Below w.heap.size w w'

set_option maxRecDepth 100000 in
set_option maxHeartbeats 2000000 in
theorem free_any (f : Fo) (v : Value) (S : Nat → Prop) (w : World) (hS : ∀ b, S b → b < w.heap.size) (hT : FoAt w S f v) (hf : fsz f ≤ 400000) : Calls Tryd.prog 20 #[v] w (FreePost (freeN f) w) := by
  have hmm := @run_makeMap Tryd.prog
  obtain ⟨W, hW⟩ : ∃ W, ((((w.alloc (.cells #[.slice none 0 0] 65)).alloc (.map #[] 0)).alloc (.map #[] 0)).alloc (.cells #[.map (some (w.heap.size + 1))] 102)).alloc (.cells #[.map (some (w.heap.size + 1 + 1))] 103) = W := ⟨_, rfl⟩
  have hC : Calls Tryd.prog 42 #[v, .map (some (w.heap.size + 1)), .func (.func 43) #[] #[.pointer (some ⟨w.heap.size + 1 + 1 + 1, 0, none⟩), .pointer (some ⟨w.heap.size + 1 + 1 + 1 + 1, 0, none⟩), .pointer (some ⟨w.heap.size, 0, none⟩)]] W (WPost (FreeJ w.heap.size) (w.heap.size + 1) (freeN f) (fun _ => 0) (0 + 2 * fsz f) (fun b => b = w.heap.size ∨ b = w.heap.size + 2 ∨ b = w.heap.size + 3 ∨ b = w.heap.size + 4 ∨ (none : Option Nat) = some b) W) := by
    refine walk_any (free_use w.heap.size) f v S _ [] (fun _ => 0) 0 0 W ?_ ?_ ?_ ?_ ?_ (by omega) (fun _ => ⟨Int.le_refl _, Int.le_refl _⟩) (by omega) (by simp; omega)
    · intro b hb
      have h1 := hS b hb
      refine ⟨by rw [← hW]; simp; omega, ?_⟩
      rintro ((e | e | e | e | e) | e)
      · omega
      · omega
      · omega
      · omega
      · cases e
      · omega
    · refine hT.below hS ?_
      rw [← hW]
      exact (((((Below.refl _ w).alloc (Nat.le_refl _) _).alloc (by simp) _).alloc (by simp; omega) _).alloc (by simp; omega) _).alloc (by simp; omega) _
    · rw [← hW]
      refine ⟨.slice none 0 0, ?_, ?_, ?_, ⟨rfl, .inl ⟨rfl, rfl⟩⟩, ?_, rfl⟩
      · rw [Below.heap_alloc _ _ _ (by simp)]
        have h := heap_alloc_new (((w.alloc (.cells #[.slice none 0 0] 65)).alloc (.map #[] 0)).alloc (.map #[] 0)) (.cells #[.map (some (w.heap.size + 1))] 102)
        simpa using h
      · have h := heap_alloc_new ((((w.alloc (.cells #[.slice none 0 0] 65)).alloc (.map #[] 0)).alloc (.map #[] 0)).alloc (.cells #[.map (some (w.heap.size + 1))] 102)) (.cells #[.map (some (w.heap.size + 1 + 1))] 103)
        simpa using h
      · rw [Below.heap_alloc _ _ _ (by simp; omega), Below.heap_alloc _ _ _ (by simp; omega), Below.heap_alloc _ _ _ (by simp; omega), Below.heap_alloc _ _ _ (by simp)]
        exact heap_alloc_new w _
      · have h := MapB.made ((w.alloc (.cells #[.slice none 0 0] 65)).alloc (.map #[] 0))
        have e : ((w.alloc (.cells #[.slice none 0 0] 65)).alloc (.map #[] 0)).heap.size = w.heap.size + 2 := by simp
        rw [e] at h
        exact h.keep ((Below.heap_alloc _ _ _ (by simp)).trans (Below.heap_alloc _ _ _ (by simp)))
    · rw [← hW]
      have h := MapI.made (w.alloc (.cells #[.slice none 0 0] 65))
      have e : (w.alloc (.cells #[.slice none 0 0] 65)).heap.size = w.heap.size + 1 := by simp
      rw [e] at h
      exact h.keep ((Below.heap_alloc _ _ _ (by simp)).trans ((Below.heap_alloc _ _ _ (by simp)).trans (Below.heap_alloc _ _ _ (by simp))))
    · rintro (e | e | e | e | e)
      · omega
      · omega
      · omega
      · omega
      · cases e
  have hbW : Below w.heap.size w W := by
    rw [← hW]
    exact (((((Below.refl _ w).alloc (Nat.le_refl _) _).alloc (by simp) _).alloc (by simp; omega) _).alloc (by simp; omega) _).alloc (by simp; omega) _
  have HC := Lib.hid hC
  have HW := Lib.hid hW
  have HBW := Lib.hid hbW
  clear hC hW hbW hT
  go_enter Tryd.func20, Tryd.ntmps20
  go_wp2_with (go_at_call 42; rw [HW.out]; refine HC.out.mono ?_; intro e w2 hp; obtain ⟨rfl, F', k', hJ', _, _, _, ho⟩ := hp; obtain ⟨v', b1, b2, b3, b4, b5, _⟩ := hJ'; (have c0 : w2.cell? ⟨w.heap.size, 0, none⟩ = some v' := cell_of_blk b3 rfl); have B4 := Lib.hid b4; have HO := Lib.hid ho; clear b1 b2 b3 b4 b5 ho)
  go_ret
  refine ⟨v', rfl, B4.out, HBW.out.trans (HO.out.below HBW.out.size (fun b hb => ?_))⟩
  rcases hb with (e | e | e | e | e) | e
  · omega
  · omega
  · omega
  · omega
  · cases e
  · omega
end Fm
end Go.Proofs.YtkjbfomokdjbnaaDoor

/-
  right, texts, formula.Bound.
-/
namespace Go.Proofs.YtkjbfomokdjbnaaDoor
open Go.RowKit
set_option linter.unusedSimpArgs false
set_option linter.unusedVariables false
namespace Fm
attribute [local go_sem] run_store taQuant_yes taQuant_no taQuant_nil

/-- a slice of texts that reads as these -/
def StrsAt (w : World) (S : Nat → Prop) (v : Value) (l : List ByteArray) : Prop := SS w S 1 v l.length (l.map Value.string) ∧ l.length ≤ 1000000
theorem StrsAt.keep {w w' : World} {S : Nat → Prop} {v : Value} {l : List ByteArray} (h : StrsAt w S v l) (hk : ∀ p : Addr, S p.block → w'.cell? p = w.cell? p) : StrsAt w' S v l := ⟨h.1.keep hk, h.2⟩
theorem StrsAt.more {w : World} {S S' : Nat → Prop} {v : Value} {l : List ByteArray} (h : StrsAt w S v l) (hS : ∀ b, S b → S' b) : StrsAt w S' v l := ⟨h.1.more hS, h.2⟩
theorem StrsAt.below {w w' : World} {S : Nat → Prop} {B : Nat} {v : Value} {l : List ByteArray} (h : StrsAt w S v l) (hS : ∀ b, S b → b < B) (hb : Below B w w') : StrsAt w' S v l := h.keep (fun _ hp => hb.cell (hS _ hp))
theorem StrsAt.of_own {w : World} {base : Nat} {v : Value} {l : List ByteArray} (h : w.ownsRow base tStr 1 v l.length (l.map Value.string)) (hl : l.length ≤ 1000000) : StrsAt w (fun b => base ≤ b ∧ b < w.heap.size) v l := ⟨SS.of_own h, hl⟩
theorem StrsAt.form {w : World} {S : Nat → Prop} {v : Value} {l : List ByteArray} (h : StrsAt w S v l) : ∃ A c, v = .slice A l.length c := h.1.form
theorem StrsAt.at_ {w : World} {S : Nat → Prop} {A : Option Addr} {n c : Nat} {l : List ByteArray} (h : StrsAt w S (.slice A n c) l) (hn : n = l.length) (h0 : 0 < n) :
    ∃ b o, A = some ⟨b, o, none⟩ ∧ S b ∧ ∀ i x, l[i]? = some x → w.cell? ⟨b, o + i, none⟩ = some (.string x) := by
  subst hn
  obtain ⟨b, o, rfl, hb, hc⟩ := h.1.at_ h0
  exact ⟨b, o, rfl, hb, fun i x hx => hc i _ (by rw [List.getElem?_map, hx]; rfl)⟩
/-! ### the quantifiers' names -/
end Fm
end Go.Proofs.YtkjbfomokdjbnaaDoor

/-
  The reference's Has, Free.
-/
namespace Go.Proofs.YtkjbfomokdjbnaaDoor
open Go.RowKit
set_option linter.unusedSimpArgs false
set_option linter.unusedVariables false
namespace Fm
attribute [local go_sem] run_store

set_option maxRecDepth 100000 in
set_option maxHeartbeats 2000000 in
theorem has_any (l : List ByteArray) (v : Value) (s : ByteArray) (S : Nat → Prop) (w : World) (hv : StrsAt w S v l) (r : Bool) (hr : r = true ↔ s ∈ l) :
    Calls Tryd.prog 54 #[v, .string s] w fun e w' => e = .returned (.bool r) ∧ w = w' := by
  obtain ⟨A1, c1, rfl⟩ := hv.form
  obtain ⟨n, hn⟩ : ∃ n, n = l.length := ⟨_, rfl⟩
  rw [← hn] at hv ⊢
  have hl1 : n ≤ 1000000 := by rw [hn]; exact hv.2
  have HV := Lib.hid hv
  have HN := Lib.hid hn
  have HR := Lib.hid hr
  clear hv hn hr
  go_enter Tryd.func54, Tryd.ntmps54
  go_wp2
  go_loop [8] (fun a_ => ∃ (i : Nat), i ≤ n ∧ a_ = .int .i64 i ∧ Hid (r = true ↔ s ∈ l.drop i)) (fun a_ => n - (intOf a_).toNat)
  case atStart => exact ⟨0, Nat.zero_le _, rfl, Lib.hid (by simpa using HR.out)⟩
  case round =>
    obtain ⟨i, hi, rfl, hrel⟩ := hrel
    by_cases hlt : i < n
    · obtain ⟨b, o, rfl, hb, hc⟩ := HV.out.at_ HN.out (by omega)
      obtain ⟨x, hx⟩ : ∃ x, l[i]? = some x := ⟨_, List.getElem?_eq_getElem (by have := HN.out; omega)⟩
      have g1 := hc i x hx
      have hstep := hrel.out
      rw [drop_at hx] at hstep
      have HST := Lib.hid hstep
      have hi1 : (0 : Int) ≤ i ∧ (i : Int) < n := by omega
      clear hc hx hstep hb
      by_cases hse : x = s
      · subst hse
        have HT := Lib.hid (show r = true from HST.out.2 (by simp))
        go_wp2
        go_ret
        exact ⟨by rw [HT.out]; rfl, rfl⟩
      · have hb0 : (x.toList == s.toList) = false := (Lib.bytes_beq_false_iff x s).2 hse
        have HST2 := Lib.hid (show r = true ↔ s ∈ l.drop (i + 1) by rw [HST.out, List.mem_cons]; exact ⟨fun h => h.resolve_left (fun e => hse e.symm), .inr⟩)
        clear hse
        go_wp2
        go_round
        case rel => exact ⟨i + 1, by omega, by go_num, HST2⟩
        case measure => simp [intOf]; omega
    · have HE := Lib.hid (show r = false by
        cases hh : r with
        | false => rfl
        | true => (have h := hrel.out.1 hh; rw [List.drop_eq_nil_of_le (by have := HN.out; omega)] at h; cases h))
      go_wp2
      go_ret
      exact ⟨by rw [HE.out]; rfl, rfl⟩

mutual
/-- the names that occur free, as the reference collects them -/
def freeR : Tr → List ByteArray → List ByteArray → List ByteArray
  | .mk h ks, bd, out => if h.k = 2 ∧ h.name ∉ bd ∧ h.name ∉ out then out ++ [h.name] else freeRL ks (if h.k = 15 then bd ++ [h.name] else bd) out
def freeRL : List Tr → List ByteArray → List ByteArray → List ByteArray
  | [], _, out => out
  | k :: ks, bd, out => freeRL ks bd (freeR k bd out)
end

/-! fr_marker -/

end Fm
end Go.Proofs.YtkjbfomokdjbnaaDoor

/-
  The reference's Parts and Bound.
-/
namespace Go.Proofs.YtkjbfomokdjbnaaDoor
open Go.RowKit
set_option linter.unusedSimpArgs false
set_option linter.unusedVariables false
namespace Fm
attribute [local go_sem] run_store

def partsL (L : List (Tr × Int)) : List (Tr × Int) := L.filter fun p => !termK p.1.h.k
/-- element i of a row of trees, its cells in a later world -/
theorem row_tree {w1 wr : World} {B g n c : Nat} {S : Nat → Prop} {ys : List Value} {ts : List Tr} (ho : w1.ownsRow B TT 9 (.slice (some ⟨g, 0, none⟩) n c) n ys) (ht : TrsC w1 S ts ys) (hn : n = ts.length) (hb : Below w1.heap.size w1 wr) (i : Nat) (hi : i < n) :
    ∃ td A1 n1 c1 A2 n2 c2 k neg nm ex rl tr al, ts[i]? = some td ∧ TreeAt w1 S td [.int .i64 k, .bool neg, .slice A1 n1 c1, .string nm, .int .i64 ex, .int .i64 rl, .bool tr, .bool al, .slice A2 n2 c2] ∧ td.h.k = k ∧ td.h.name = nm ∧
      wr.cell? ⟨g, i * 9, none⟩ = some (.int .i64 k) ∧ wr.cell? ⟨g, i * 9 + 1, none⟩ = some (.bool neg) ∧ wr.cell? ⟨g, i * 9 + 2, none⟩ = some (.slice A1 n1 c1) ∧
      wr.cell? ⟨g, i * 9 + 3, none⟩ = some (.string nm) ∧ wr.cell? ⟨g, i * 9 + 4, none⟩ = some (.int .i64 ex) ∧ wr.cell? ⟨g, i * 9 + 5, none⟩ = some (.int .i64 rl) ∧
      wr.cell? ⟨g, i * 9 + 6, none⟩ = some (.bool tr) ∧ wr.cell? ⟨g, i * 9 + 7, none⟩ = some (.bool al) ∧ wr.cell? ⟨g, i * 9 + 8, none⟩ = some (.slice A2 n2 c2) := by
  obtain ⟨cs, h1, h2⟩ := ht.get i (by omega)
  obtain ⟨va, vk, ys', hcs, _⟩ := h1.cells
  obtain ⟨A1, n1, c1, A2, n2, c2, k, neg, nm, ex, rl, tr, al, rfl⟩ := h1.nine
  simp only [hdC, List.cons.injEq, and_true] at hcs
  have hg : g < w1.heap.size := (ho.lt g rfl).2
  have hc : ∀ j u, [Value.int .i64 k, .bool neg, .slice A1 n1 c1, .string nm, .int .i64 ex, .int .i64 rl, .bool tr, .bool al, .slice A2 n2 c2][j]? = some u → wr.cell? ⟨g, i * 9 + j, none⟩ = some u := fun j u hj => by
    have h3 := ho.cells (g := g) rfl _ _ (h2 j u hj)
    have e : (⟨g, 0, none⟩ : Addr).add (i * 9 + j) = ⟨g, i * 9 + j, none⟩ := by
      unfold Addr.add; split
      · rename_i h5; simp [h5]
      · simp
    rw [e] at h3
    exact (hb.cell (p := ⟨g, i * 9 + j, none⟩) hg).trans h3
  refine ⟨_, A1, n1, c1, A2, n2, c2, k, neg, nm, ex, rl, tr, al, List.getElem?_eq_getElem (by omega), h1, ?_, ?_, hc 0 _ rfl, hc 1 _ rfl, hc 2 _ rfl, hc 3 _ rfl, hc 4 _ rfl, hc 5 _ rfl, hc 6 _ rfl, hc 7 _ rfl, hc 8 _ rfl⟩
  · have := hcs.1; injection this with _ h; exact h.symm
  · have := hcs.2.2.2.1; injection this with h; exact h.symm
theorem row_form {w : World} {B n size : Nat} {e : TypeId} {v : Value} {xs : List Value} (hsz : 0 < size) (h : w.ownsRow B e size v n xs) : ∃ A c, v = .slice A n c := by
  rcases h.2 with ⟨rfl, h0⟩ | ⟨g, cap, cur, rfl, _⟩
  · have : n = 0 := by
      have h1 := h.1; rw [h0] at h1; simp at h1
      rcases h1 with h1 | h1 <;> omega
    subst this; exact ⟨_, _, rfl⟩
  · exact ⟨_, _, rfl⟩
theorem partsL_len (L : List (Tr × Int)) (i : Nat) : (partsL (L.take i)).length ≤ L.length := by
  unfold partsL
  have := List.length_filter_le (fun p : Tr × Int => !termK p.1.h.k) (L.take i)
  have : (L.take i).length ≤ L.length := by rw [List.length_take]; omega
  omega
/-- the quantifiers among these trees -/
def qNames (L : List (Tr × Int)) : List ByteArray := (L.filter fun p => decide (p.1.h.k = 15)).map fun p => p.1.h.name
end Fm
end Go.Proofs.YtkjbfomokdjbnaaDoor
