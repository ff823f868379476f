/-
  formula.Check: its closure note.
-/
import Derived.Test.YteneobpacobpdaaGreatDoorHy
import Derived.Test.YteneobpacobpdaaGreatDoorFmG
import Derived.Test.YteneobpacobpdaaGreatDoorFmPF
import Derived.Test.YteneobpacobpdaaGreatDoorVa
import Derived.Test.YteneobpacobpdaaGreatDoorFmZ
set_option linter.unusedSimpArgs false
set_option linter.unusedVariables false
set_option maxRecDepth 100000
set_option maxHeartbeats 16000000
namespace Go.Proofs.YteneobpacobpdaaGreatDoor
open Go.RowKit
namespace Dc
open Fm Va
attribute [local go_sem] run_store
abbrev CkS := Nat × List ByteArray × Bool
def ckStep (s : CkS) (nm : ByteArray) : CkS := (s.1 + 1, addN s.2.1 nm, s.2.2 && validB nm.data.toList)
abbrev ckF (B : Nat) : Nat → Prop := fun b => b = B ∨ b = B + 1 ∨ b = B + 2
def CkJ (B : Nat) (s : CkS) (F : Nat → Prop) (W : World) : Prop :=
 W.heap[B + 1]? = some (.cells #[.map (some B)] tMB (0, 0)) ∧ W.heap[B + 2]? = some (.cells #[.bool s.2.2] tB (0, 0)) ∧ MapB W B s.1 s.2.1 ∧ F = ckF B
abbrev ckCaps (B : Nat) : Array Value := #[.pointer (some ⟨B + 1, 0, none⟩), .pointer (some ⟨B + 2, 0, none⟩)]
theorem CkJ.lt {B : Nat} {s : CkS} {F : Nat → Prop} {W : World} (h : CkJ B s F W) : ∀ b, F b → b < W.heap.size := by
 obtain ⟨h1, h2, h3, rfl⟩ := h
 intro b hb
 rcases hb with rfl | rfl | rfl
 ·exact h3.lt
 ·exact blk_lt h1
 ·exact blk_lt h2
theorem CkJ.keep {B : Nat} {s : CkS} {F : Nat → Prop} {W W' : World} (h : CkJ B s F W) (hk : ∀ b, F b → W'.heap[b]? = W.heap[b]?) : CkJ B s F W' := by
 obtain ⟨h1, h2, h3, rfl⟩ := h
 exact ⟨(hk _ (.inr (.inl rfl))).trans h1, (hk _ (.inr (.inr rfl))).trans h2, h3.keep (hk _ (.inl rfl)), rfl⟩
theorem CkJ.setV {B : Nat} {s : CkS} {F : Nat → Prop} {W : World} (h : CkJ B s F W) (v : Bool) : CkJ B (s.1, s.2.1, v) F (W.setCell ⟨B + 2, 0, none⟩ (.bool v)) := by
 obtain ⟨h1, h2, h3, rfl⟩ := h
 refine ⟨(Below.heap_setCell _ _ _ _ (by show B + 1 ≠ B + 2; omega)).trans h1, ?_, h3.keep (Below.heap_setCell _ _ _ _ (by show B ≠ B + 2; omega)), rfl⟩
 rw [setCell_block _ _ _ _ _ _ h2]; rfl
theorem ck1_end {B n : Nat} {L L' : List ByteArray} {v v' : Bool} {F : Nat → Prop} {W W2 : World} (h : CkJ B (n, L, v) F W) (hm : MapB W2 B (n + 1) L') (hg : W.grownBy W2 (some B)) : CkJ B (n + 1, L', v') F (W2.setCell ⟨B + 2, 0, none⟩ (.bool v')) ∧ Owns W (W2.setCell ⟨B + 2, 0, none⟩ (.bool v')) F F := by
 have hlt := h.lt
 obtain ⟨h1, h2, h3, rfl⟩ := h
 have l1 := blk_lt h1
 have l2 := blk_lt h2
 have k : ∀ b, b < W.heap.size → b ≠ B → W2.heap[b]? = W.heap[b]? := fun b hb hne => hg.block b hb (fun e => hne (by injection e))
 have hJ : CkJ B (n + 1, L', v) (ckF B) W2 := ⟨(k _ l1 (by omega)).trans h1, (k _ l2 (by omega)).trans h2, hm, rfl⟩
 refine ⟨hJ.setV v', ?_⟩
 refine ⟨hg.os, hg.tape, hg.output, by simpa [World.setCell] using hg.size, fun b hb hF => ?_, fun b hb => .inl hb⟩
 have hF1 : b ≠ B := fun e => hF (.inl e)
 have hF2 : b ≠ B + 2 := fun e => hF (.inr (.inr e))
 exact (Below.heap_setCell _ _ _ _ hF2).trans (k b hb hF1)
theorem ck1_any (B n : Nat) (L : List ByteArray) (v : Bool) (F : Nat → Prop) (W : World) (nm : ByteArray) (hnm : nm.size ≤ 9223372036854775807) (hn : n < 900000) (hJ : CkJ B (n, L, v) F W) :
  Calls Tryz.prog 26 (#[.string nm] ++ ckCaps B) W fun e W' => e = .returned (.tuple #[]) ∧ CkJ B (ckStep (n, L, v) nm) F W' ∧ Owns W W' F F := by
 have HJ := h_ hJ
 obtain ⟨h1, h2, h3, hF⟩ := hJ
 dsimp only at h2 h3
 have c1 : W.cell? ⟨B + 1, 0, none⟩ = some (.map (some B)) := cell_of_blk h1 rfl
 have c2 : W.cell? ⟨B + 2, 0, none⟩ = some (.bool v) := cell_of_blk h2 rfl
 have l2 := blk_lt h2
 have H2 := h_ h2
 have H3 := h_ h3
 obtain ⟨r, hr⟩ : ∃ r, r = validB nm.data.toList := ⟨_, rfl⟩
 have HV := h_ (show ∀ w, Calls Tryz.prog 27 #[.string nm] w fun e w' => e = .returned (.bool r) ∧ w = w' from fun w => by rw [hr]; exact valid_any nm w hnm)
 have HR := h_ hr
 show Calls Tryz.prog 26 #[.string nm, .pointer (some ⟨B + 1, 0, none⟩), .pointer (some ⟨B + 2, 0, none⟩)] W _
 clear h1 h2 h3 hF hr
 cases v
 ·go_enter Tryz.func26, Tryz.ntmps26
  go_wp2_with (first
   |(at_mapUpdate; refine wpList_storeB _ rfl _ _ _ rfl B n L rfl H3.out (by omega) nm rfl hnm rfl ?_; intro w2 hm2 hg2; (have b2 : w2.heap[B + 2]? = some (.cells #[.bool false] tB (0, 0)) := (hg2.block (B + 2) l2 (fun e => by injection e with e; omega)).trans H2.out); (have d2 : w2.cell? ⟨B + 2, 0, none⟩ = some (.bool false) := cell_of_blk b2 rfl); (have f2 : w2.frozen? ⟨B + 2, 0, none⟩ = false := fz_of_blk b2); have HM2 := h_ hm2; have HG2 := h_ hg2; clear hm2 hg2 b2 c1 c2))
  go_end0
  exact ⟨rfl, ck1_end HJ.out HM2.out HG2.out⟩
 ·have HST := h_ (show ckStep (n, L, true) nm = (n + 1, addN L nm, r) from by unfold ckStep; rw [HR.out]; rfl)
  go_enter Tryz.func26, Tryz.ntmps26
  go_wp2_with (first
   |(at_mapUpdate; refine wpList_storeB _ rfl _ _ _ rfl B n L rfl H3.out (by omega) nm rfl hnm rfl ?_; intro w2 hm2 hg2; (have b2 : w2.heap[B + 2]? = some (.cells #[.bool true] tB (0, 0)) := (hg2.block (B + 2) l2 (fun e => by injection e with e; omega)).trans H2.out); (have d2 : w2.cell? ⟨B + 2, 0, none⟩ = some (.bool true) := cell_of_blk b2 rfl); (have f2 : w2.frozen? ⟨B + 2, 0, none⟩ = false := fz_of_blk b2); have HM2 := h_ hm2; have HG2 := h_ hg2; clear hm2 hg2 b2 c1 c2)
   |(go_at_call 27; refine (HV.out _).mono ?_; rintro e w3 ⟨rfl, rfl⟩))
  go_end0
  exact ⟨rfl, by rw [HST.out]; exact ck1_end HJ.out HM2.out HG2.out⟩
theorem cf_ck1 (args : Array Value) (w : World) : (callFunc 26 args).run Tryz.prog w = .ok (.enter 26 args) w := by kernel_rfl
theorem ck_use (B M : Nat) : WUse 26 (ckCaps B) (CkJ B) M (fun s _ nm => ckStep s nm) (fun s => s.1) where
 le := fun s g nm => Nat.le_refl _
 lt := fun h => h.lt
 keep := fun h _ hk => h.keep hk
 cf := cf_ck1
 call := fun s g k F W nm hn hc hJ hM hF => (ck1_any B s.1 s.2.1 s.2.2 F W nm hn hc hJ).mono (by rintro e W' ⟨h1, h2, h3⟩; exact ⟨h1, F, h2, h3⟩)
def namesF : Fo → List ByteArray
 | .atom l _ r => namesT l ++ namesT r
 | .not f => namesF f
 | .and l r => namesF l ++ namesF r
 | .or l r => namesF l ++ namesF r
 | .implies l r => namesF l ++ namesF r
 | .iff l r => namesF l ++ namesF r
 | .quant _ _ f => namesF f
 | _ => []
theorem walkS_ck (f : Fo) : ∀ (g : ByteArray → Int) (s : CkS), walkS (fun s _ nm => ckStep s nm) f g s = (namesF f).foldl ckStep s := by
 induction f with
 | odd => intro g s; rfl
 | truth b => intro g s; rfl
 | atom l e r => intro g s; show _ = (namesT l ++ namesT r).foldl ckStep s; rw [List.foldl_append]; rfl
 | not f ih => intro g s; exact ih g s
 | and l r il ir => intro g s; show walkS _ r g (walkS _ l g s) = (namesF l ++ namesF r).foldl ckStep s; rw [il, ir, List.foldl_append]
 | or l r il ir => intro g s; show walkS _ r g (walkS _ l g s) = (namesF l ++ namesF r).foldl ckStep s; rw [il, ir, List.foldl_append]
 | implies l r il ir => intro g s; show walkS _ r g (walkS _ l g s) = (namesF l ++ namesF r).foldl ckStep s; rw [il, ir, List.foldl_append]
 | iff l r il ir => intro g s; show walkS _ r g (walkS _ l g s) = (namesF l ++ namesF r).foldl ckStep s; rw [il, ir, List.foldl_append]
 | quant a n f ih => intro g s; exact ih _ s
end Dc
end Go.Proofs.YteneobpacobpdaaGreatDoor
namespace Go.Proofs.YteneobpacobpdaaGreatDoor
open Go.RowKit
namespace Dc
open Fm Va
attribute [local go_sem] run_store
def bStep (p : CkS × List ByteArray) (nm : ByteArray) : CkS × List ByteArray :=
 (((ckStep p.1 nm).1, (ckStep p.1 nm).2.1, if nm ∈ p.2 then false else (ckStep p.1 nm).2.2), addN p.2 nm)
def ckS1 (f : Fo) : CkS := (namesF f).foldl ckStep (0, [], true)
def ckS2 (f : Fo) : CkS × List ByteArray := (boundN f).foldl bStep (ckS1 f, [])
def fStep (q : List ByteArray) (v : Bool) (nm : ByteArray) : Bool := if nm ∈ q then false else v
def ckOk (f : Fo) : Bool := (freeN f).foldl (fStep (ckS2 f).2) (ckS2 f).1.2.2
theorem cnt_names (l : List ByteArray) (s : CkS) : (l.foldl ckStep s).1 = s.1 + l.length := by
 induction l generalizing s with
 | nil => simp
 | cons a l ih => rw [List.foldl_cons, ih, List.length_cons]; unfold ckStep; dsimp only; omega
theorem cnt_bound (l : List ByteArray) (p : CkS × List ByteArray) : (l.foldl bStep p).1.1 = p.1.1 + l.length := by
 induction l generalizing p with
 | nil => simp
 | cons a l ih => rw [List.foldl_cons, ih, List.length_cons]; unfold bStep ckStep; dsimp only; omega
theorem names_fsz (f : Fo) : (namesF f).length + (boundN f).length ≤ fsz f := by
 induction f <;> simp [namesF, boundN, fsz] <;> omega
theorem foldl_take_succ {α β : Type} (g : β → α → β) (b : β) {l : List α} {i : Nat} {x : α} (h : l[i]? = some x) : (l.take (i + 1)).foldl g b = g ((l.take i).foldl g b) x := by
 obtain ⟨hi, rfl⟩ := List.getElem?_eq_some_iff.1 h
 rw [List.take_succ_eq_append_getElem hi, List.foldl_append]; rfl
theorem str_at {w1 wr : World} {B n : Nat} {v : Value} {L : List ByteArray} {F F' : Nat → Prop} (ho : w1.ownsRow B tStr 1 v n (L.map Value.string)) (hn : n = L.length) (how : Owns w1 wr F F') (hF : ∀ b, F b → b < B) (i : Nat) (hi : i < n) :
  ∃ g c nm, v = .slice (some ⟨g, 0, none⟩) n c ∧ L[i]? = some nm ∧ wr.cell? ⟨g, i, none⟩ = some (.string nm) := by
 obtain ⟨g, c, rfl, _, _⟩ := ho.form (by omega)
 refine ⟨g, c, L[i]'(by omega), rfl, List.getElem?_eq_getElem _, ?_⟩
 have hlt := ho.lt g rfl
 rw [how.cell (p := ⟨g, i, none⟩) hlt.2 (fun h => by have := hF _ h; have := hlt.1; simp at *; omega), ho.cellAt i (by omega)]
 simp [show i < L.length by omega]
theorem MapB.run {w : World} {b n : Nat} {L : List ByteArray} (hown : MapB w b n L) (hn : n < 1000000) (s : ByteArray) (hs : s.size ≤ 9223372036854775807) : ∃ w', Sem.run Tryz.prog (Instr.mapUpdate tMB (.map (some b)) (.string s) (.bool true)) w = .ok () w' ∧ MapB w' b (n + 1) (addN L s) ∧ w.grownBy w' (some b) := by
 obtain ⟨D, h1, h2, h3, h4⟩ := hown
 obtain ⟨w', hr, h5, h6⟩ := h1.update strLaw Tryz.underlying58 (by unfold maxLen; omega) (keyS hs) (plainElem_bool Tryz.underlying4 true)
 exact ⟨w', hr, MapB.put (w := w) h2 h3 h4 h1.isMap (h1.tidy strLaw) s h5, h6⟩
theorem Owns.set (W : World) (p : Addr) (v : Value) (F : Nat → Prop) (hF : F p.block) : Owns W (W.setCell p v) F F :=
 ⟨rfl, rfl, rfl, by simp [World.setCell], fun b _ hb => Below.heap_setCell _ _ _ _ (fun e => hb (e ▸ hF)), fun _ h => .inl h⟩
theorem bRound {B M pn i : Nat} {pL pq : List ByteArray} {pv b : Bool} {nm : ByteArray} {w4 w5 : World} (hM : M ≠ B ∧ M ≠ B + 1 ∧ M ≠ B + 2) (hb : b = decide (nm ∈ pq)) (hJ : CkJ B ((ckStep (pn, pL, pv) nm).1, (ckStep (pn, pL, pv) nm).2.1, if b = true then false else (ckStep (pn, pL, pv) nm).2.2) (ckF B) w4) (hm : MapB w5 M (i + 1) (addN pq nm)) (hg : w4.grownBy w5 (some M)) :
  CkJ B (bStep ((pn, pL, pv), pq) nm).1 (ckF B) w5 ∧ MapB w5 M (i + 1) (bStep ((pn, pL, pv), pq) nm).2 := by
 refine ⟨?_, hm⟩
 have e : (bStep ((pn, pL, pv), pq) nm).1 = ((ckStep (pn, pL, pv) nm).1, (ckStep (pn, pL, pv) nm).2.1, if b = true then false else (ckStep (pn, pL, pv) nm).2.2) := by
  subst hb; unfold bStep; simp
 rw [e]
 exact hJ.keep (fun x hx => hg.block x (hJ.lt x hx) (fun h => by injection h with h; subst h; rcases hx with (h | h | h) <;> omega))
theorem check_bad (f : Fo) (v : Value) (S : Nat → Prop) (w : World) (hS : ∀ b, S b → b < w.heap.size) (hT : FoAt w S f v) (hsm : SmF f) (hbad : ckOk f = false) (hf : fsz f ≤ 100000) (hfr : (freeN f).length ≤ 100000) (hnn : fnn f ≤ 100000) (hsz : ∀ nm ∈ boundN f, nm.size ≤ 9223372036854775807) (hszF : ∀ nm ∈ freeN f, nm.size ≤ 9223372036854775807) :
  Calls Tryz.prog 11 #[v] w fun e w' => e = .returned (.int .i64 7) ∧ Below w.heap.size w w' := by
 have hmm := @run_makeMap Tryz.prog
 obtain ⟨B, hB⟩ : ∃ B, B = w.heap.size := ⟨_, rfl⟩
 obtain ⟨W, hW⟩ : ∃ W, (((w.alloc (.map #[] 0)).alloc (.cells #[.map (some w.heap.size)] 58)).alloc (.cells #[.bool true] 4)).alloc (.map #[] 0) = W := ⟨_, rfl⟩
 have hWs : W.heap.size = B + 4 := by rw [← hW, hB]; simp
 have hbW : Below w.heap.size w W := by
  rw [← hW]
  exact ((((Below.refl _ w).alloc (Nat.le_refl _) _).alloc (by simp) _).alloc (by simp; omega) _).alloc (by simp; omega) _
 have hJ0 : CkJ B (0, [], true) (ckF B) W := by
  refine ⟨?_, ?_, ?_, rfl⟩
  ·rw [← hW, hB, Below.heap_alloc _ _ _ (by simp), Below.heap_alloc _ _ _ (by simp)]
   have h := heap_alloc_new (w.alloc (.map #[] 0)) (.cells #[.map (some w.heap.size)] tMB)
   simpa using h
  ·rw [← hW, hB, Below.heap_alloc _ _ _ (by simp)]
   have h := heap_alloc_new ((w.alloc (.map #[] 0)).alloc (.cells #[.map (some w.heap.size)] tMB)) (.cells #[.bool true] tB)
   simpa using h
  ·have h := MapB.made w
   rw [← hB] at h
   refine h.keep ?_
   rw [← hW, hB, Below.heap_alloc _ _ _ (by simp; omega), Below.heap_alloc _ _ _ (by simp; omega), Below.heap_alloc _ _ _ (by simp)]
 have hM0 : MapI W (B + 3) 0 (fun _ => 0) := by
  have h := MapI.made (((w.alloc (.map #[] 0)).alloc (.cells #[.map (some w.heap.size)] tMB)).alloc (.cells #[.bool true] tB))
  have e : (((w.alloc (.map #[] 0)).alloc (.cells #[.map (some w.heap.size)] tMB)).alloc (.cells #[.bool true] tB)).heap.size = B + 3 := by rw [hB]; simp
  rw [e] at h
  rw [← hW]; exact h
 have hSn : ∀ b, S b → b < B := fun b hb => by rw [hB]; exact hS b hb
 have hC : Calls Tryz.prog 28 #[v, .map (some (B + 3)), .func (.func 26) #[] (ckCaps B)] W (WPost (CkJ B) (B + 3) (ckS1 f) (fun _ => 0) (0 + 2 * fsz f) (ckF B) W) := by
  have h := walk_any (ck_use B (B + 3)) f v S (ckF B) (0, [], true) (fun _ => 0) 0 0 W (fun b hb => by
   have h1 := hSn b hb
   refine ⟨by omega, ?_⟩
   rintro ((e | e | e) | e) <;> omega) (hT.below hS hbW) hJ0 hM0 (by rintro (e | e | e) <;> omega) (by omega) (fun _ => ⟨Int.le_refl _, Int.le_refl _⟩) (by omega) (by simp; omega)
  rw [walkS_ck] at h
  exact h
 rw [hB] at hC
 have HC := h_ hC
 have HW := h_ hW
 have HBW := h_ hbW
 have HWS := h_ hWs
 have HB := h_ hB
 have HT := h_ hT
 have HSN := h_ hSn
 have hnf := names_fsz f
 have HNF := h_ hnf
 obtain ⟨Lb, hLb⟩ : ∃ L, L = boundN f := ⟨_, rfl⟩
 obtain ⟨Lf, hLf⟩ : ∃ L, L = freeN f := ⟨_, rfl⟩
 have HLB := h_ hLb
 have HLF := h_ hLf
 rw [← hLb] at hsz
 rw [← hLf] at hszF
 have HSZ := h_ hsz
 have HSZF := h_ hszF
 obtain ⟨n, hn⟩ : ∃ n, n = Lb.length := ⟨_, rfl⟩
 obtain ⟨m, hm⟩ : ∃ m, m = Lf.length := ⟨_, rfl⟩
 have hn1 : n ≤ 100000 := by rw [hn, hLb]; omega
 have hm1 : m ≤ 100000 := by rw [hm, hLf]; exact hfr
 have HN := h_ hn
 have HM := h_ hm
 have HSM := h_ hsm
 have HNN := h_ hnn
 have HFS := h_ hf
 have HBAD := h_ hbad
 clear hC hW hbW hWs hB hT hSn hnf hLb hLf hsz hszF hn hm hsm hf hbad hJ0 hM0 hS
 go_enter Tryz.func11, Tryz.ntmps11
 go_wp2_with (first
  |(go_at_call 28; rw [HW.out]; refine HC.out.mono ?_; intro e w2 hp; obtain ⟨rfl, F', k', hJ', _, _, _, ho⟩ := hp; obtain rfl : F' = ckF B := by (have h4 := hJ'.2.2.2; rw [← HB.out] at h4; exact h4)
    have HJ2 := h_ hJ'
    have HO2 := h_ ho
    clear hJ' ho))
 have hB := HB.out
 subst hB
 have hs2 := HO2.out.size
 have hws := HWS.out
 have HO3 : Hid (Below (w2.alloc (.map #[] 0)).heap.size (w2.alloc (.map #[] 0)) (w2.alloc (.map #[] 0))) := h_ (Below.refl _ _)
 obtain ⟨W2, hW2⟩ : ∃ W2, w2.alloc (.map #[] 0) = W2 := ⟨_, rfl⟩
 have hW2s : W2.heap.size = w2.heap.size + 1 := by rw [← hW2]; simp
 have hbA : Below w2.heap.size w2 W2 := by rw [← hW2]; exact (Below.refl _ _).alloc (Nat.le_refl _) _
 have HTA := h_ (show ∀ w', Below w2.heap.size w2 w' → FoAt w' S f v from fun w' hb => ((HT.out.below HSN.out HBW.out).owns HO2.out (fun b hb => by
  have h1 := HSN.out b hb
  exact ⟨by omega, by rintro (e | e | e) <;> omega⟩)).below (fun b hb => by have h1 := HSN.out b hb; omega) hb)
 have HSA := h_ (show ∀ w', Below w2.heap.size w2 w' → ∀ b, S b → b < w'.heap.size from fun w' hb b h => by have h1 := HSN.out b h; have := hb.size; omega)
 have HBND := h_ (bound_any f v S W2 (HSA.out W2 hbA) (HTA.out W2 hbA) (by have := HFS.out; omega))
 have HQ2 := h_ (show MapB W2 w2.heap.size 0 [] from by rw [← hW2]; exact MapB.made w2)
 have HJA := h_ (show CkJ w.heap.size (ckS1 f) (ckF w.heap.size) W2 from HJ2.out.keep (fun b hb => hbA.block b (HJ2.out.lt b hb)))
 have HBA := h_ hbA
 rw [← HLB.out] at HBND
 rw [← HN.out] at HBND
 clear HO3 hbA
 go_wp2_with (first
  |(go_at_call 29; refine HBND.out.mono ?_; intro e w3 hp; obtain ⟨v3, rfl, ho3, hb3⟩ := hp; obtain ⟨r3, q3, rfl⟩ := row_form (by omega) ho3; have HO3 := h_ ho3; have HB3 := h_ hb3; clear ho3 hb3))
 have hs3 := HB3.out.size
 have HJ3 := h_ (show CkJ w.heap.size (ckS1 f) (ckF w.heap.size) w3 from HJA.out.keep (fun b hb => HB3.out.block b (HJA.out.lt b hb)))
 have HQ3 := h_ (show MapB w3 w2.heap.size 0 [] from HQ2.out.keep (HB3.out.block _ HQ2.out.lt))
 obtain ⟨F2, hF2⟩ : ∃ F2 : Nat → Prop, F2 = addM (ckF w.heap.size) w2.heap.size := ⟨_, rfl⟩
 have HF2 := h_ hF2
 have HF2B := h_ (show ∀ b, F2 b → b < W2.heap.size from fun b hb => by
  rw [hF2] at hb
  rcases hb with (e | e | e) | e <;> omega)
 clear hW2 hF2
 have hcf := cf_ck1
 go_loopw [21] (fun a_ wr => ∃ i : Nat, i ≤ n ∧ a_ = .int .i64 i ∧ Hid (CkJ w.heap.size ((Lb.take i).foldl bStep (ckS1 f, [])).1 (ckF w.heap.size) wr) ∧ Hid (MapB wr w2.heap.size i ((Lb.take i).foldl bStep (ckS1 f, [])).2) ∧ Hid (Owns w3 wr F2 F2)) (fun a_ _ => n - (intOf a_).toNat)
 case atStart => exact ⟨0, Nat.zero_le _, rfl, HJ3, HQ3, h_ (Owns.refl _ _)⟩
 case round =>
  obtain ⟨i, hi, rfl, hJ, hQ, hO⟩ := hrel
  by_cases hlt : i < n
  ·obtain ⟨g, c, nm, hv, hnmL, hcell⟩ := str_at HO3.out HN.out hO.out HF2B.out i hlt
   injection hv with hv1 hv2 hv3
   subst hv1; subst hv3
   have hnsz := HSZ.out nm (List.mem_of_getElem? hnmL)
   have hstep := foldl_take_succ bStep (ckS1 f, ([] : List ByteArray)) hnmL
   have hcnt : ((Lb.take i).foldl bStep (ckS1 f, [])).1.1 ≤ 200000 := by
    rw [cnt_bound]
    have h1 := cnt_names (namesF f) (0, [], true)
    have h2 : (Lb.take i).length ≤ Lb.length := by rw [List.length_take]; omega
    have h3 := HNF.out
    have h4 := HFS.out
    have h5 := HLB.out
    unfold ckS1
    rw [h1]
    have h6 : Lb.length = (boundN f).length := by rw [h5]
    show 0 + (namesF f).length + _ ≤ _
    omega
   obtain ⟨P, hP⟩ : ∃ P, P = (Lb.take i).foldl bStep (ckS1 f, []) := ⟨_, rfl⟩
   rw [← hP] at hJ hQ hstep hcnt
   obtain ⟨⟨pn, pL, pv⟩, pq⟩ := P
   dsimp only at hJ hQ hcnt
   have HNC : Hid (Calls Tryz.prog 26 #[.string nm, .pointer (some ⟨w.heap.size + 1, 0, none⟩), .pointer (some ⟨w.heap.size + 1 + 1, 0, none⟩)] wr fun e W' => e = .returned (.tuple #[]) ∧ CkJ w.heap.size (ckStep (pn, pL, pv) nm) (ckF w.heap.size) W' ∧ Owns wr W' (ckF w.heap.size) (ckF w.heap.size)) := h_ (ck1_any w.heap.size pn pL pv _ wr nm hnsz (by omega) hJ.out)
   have HST := h_ hstep
   have hsw := hO.out.size
   obtain ⟨z, hz⟩ : ∃ z : Bool, z = decide (nm ∈ pq) := ⟨_, rfl⟩
   have HZ := h_ hz
   have HQW := hQ.out.lt
   clear hstep hcnt hP hnmL hz
   cases z
   ·go_wp2_with (first
     |((with_reducible refine HNC.out.mono ?_); rintro e w4 ⟨rfl, hj4, ho4⟩; (have hq4 : MapB w4 w2.heap.size i pq := hQ.out.keep (ho4.same _ HQW (by rintro (e | e | e) <;> omega))); obtain ⟨w5, hrun5, hm5, hg5⟩ := MapB.run hq4 (by omega) nm hnsz; have HJ4 := h_ hj4; have HO4 := h_ ho4; have HQ4 := h_ hq4; have HM5 := h_ hm5; have HG5 := h_ hg5; clear hj4 ho4 hq4 hm5 hg5)
     |(at_lookup; refine wpList_lookupB _ rfl _ _ rfl w2.heap.size i pq rfl HQ4.out nm rfl hnsz ?_; intro c hc; obtain rfl : c = false := hc.out.trans HZ.out.symm; clear hc))
    have hr := bRound (b := false) (by omega) HZ.out HJ4.out HM5.out HG5.out
    rw [← HST.out] at hr
    have ho := hO.out
    rw [HF2.out] at ho
    refine ⟨⟨i + 1, by omega, rfl, h_ hr.1, h_ hr.2, ?_⟩, ?_⟩
    ·rw [HF2.out]; exact h_ ((ho.trans (HO4.out.addM _)).trans (Owns.of_map HG5.out _))
    ·show n - ((i : Int) + 1).toNat < n - (i : Int).toNat
     omega
   ·go_wp2_with (first
     |((with_reducible refine HNC.out.mono ?_); rintro e w4 ⟨rfl, hj4, ho4⟩; (have hq4 : MapB w4 w2.heap.size i pq := hQ.out.keep (ho4.same _ HQW (by rintro (e | e | e) <;> omega))); (have d4 : w4.cell? ⟨w.heap.size + 1 + 1, 0, none⟩ = some (.bool (ckStep (pn, pL, pv) nm).2.2) := cell_of_blk hj4.2.1 rfl); (have f4 : w4.frozen? ⟨w.heap.size + 1 + 1, 0, none⟩ = false := fz_of_blk hj4.2.1); have HJ4 := h_ (hj4.setV false); have HO4 := h_ ho4; have HQ4 := h_ (show MapB (w4.setCell ⟨w.heap.size + 1 + 1, 0, none⟩ (.bool false)) w2.heap.size i pq from hq4.keep (Below.heap_setCell _ _ _ _ (by show w2.heap.size ≠ w.heap.size + 1 + 1; omega))); have HQ5 := h_ hq4; clear hj4 ho4 hq4)
     |(at_lookup; refine wpList_lookupB _ rfl _ _ rfl w2.heap.size i pq rfl HQ5.out nm rfl hnsz ?_; intro c hc; obtain rfl : c = true := hc.out.trans HZ.out.symm; clear hc)
     |(at_mapUpdate; refine wpList_storeB _ rfl _ _ _ rfl w2.heap.size i pq rfl HQ4.out (by omega) nm rfl hnsz rfl ?_; intro w5 hm5 hg5; have HM5 := h_ hm5; have HG5 := h_ hg5; clear hm5 hg5))
    have hr := bRound (b := true) (by omega) HZ.out HJ4.out HM5.out HG5.out
    rw [← HST.out] at hr
    have ho := hO.out
    rw [HF2.out] at ho
    refine ⟨⟨i + 1, by omega, rfl, h_ hr.1, h_ hr.2, ?_⟩, ?_⟩
    ·rw [HF2.out]; exact h_ (((ho.trans (HO4.out.addM _)).trans (Owns.set _ ⟨w.heap.size + 1 + 1, 0, none⟩ (.bool false) _ (.inl (.inr (.inr rfl))))).trans (Owns.of_map HG5.out _))
    ·show n - ((i : Int) + 1).toNat < n - (i : Int).toNat
     omega
  ·obtain rfl : i = n := by omega
   have hS2 : (Lb.take i).foldl bStep (ckS1 f, []) = ckS2 f := by rw [HN.out, List.take_length, HLB.out]; rfl
   rw [hS2] at hJ hQ
   obtain ⟨P, hP⟩ : ∃ P, P = ckS2 f := ⟨_, rfl⟩
   rw [← hP] at hJ hQ
   obtain ⟨⟨pn, pL, pv⟩, pq⟩ := P
   dsimp only at hJ hQ
   have HP := h_ hP
   have hsr := hO.out.size
   have hbl : Below w.heap.size w wr := HBW.out.trans ((HO2.out.below (B := w.heap.size) (by omega) (by rintro b ((e | e | e) | e) <;> omega)).trans ((HBA.out.mono (by omega)).trans ((HB3.out.mono (by omega)).trans (hO.out.below (by omega) (by rw [HF2.out]; rintro b ((e | e | e) | e) <;> omega)))))
   have hfree := free_any f v S wr (fun b h => by have := HSN.out b h; omega) (HT.out.below HSN.out hbl) (by have := HFS.out; omega)
   rw [← HLF.out] at hfree
   unfold FreePost at hfree
   rw [← HM.out] at hfree
   have HFR := h_ hfree
   have HBL := h_ hbl
   have HQL := h_ hQ.out.lt
   clear hP hS2 hfree hbl
   go_wp2_with (first
    |(go_at_call 30; refine HFR.out.mono ?_; intro e w4 hp; obtain ⟨v4, rfl, ho4, hb4⟩ := hp; obtain ⟨r4, q4, rfl⟩ := row_form (by omega) ho4; have HO4 := h_ ho4; have HB4 := h_ hb4; clear ho4 hb4))
   have hs4 := HB4.out.size
   have HJ4 := h_ (show CkJ w.heap.size (pn, pL, pv) (ckF w.heap.size) w4 from hJ.out.keep (fun b hb => HB4.out.block b (hJ.out.lt b hb)))
   have HQ4 := h_ (show MapB w4 w2.heap.size i pq from hQ.out.keep (HB4.out.block _ hQ.out.lt))
   have HBL4 := h_ (show Below w.heap.size w w4 from HBL.out.trans (HB4.out.mono HBL.out.size))
   have hszr : w.heap.size + 4 ≤ wr.heap.size := by omega
   clear HFR
   go_loopw [37] (fun a_ wr => ∃ i : Nat, i ≤ m ∧ a_ = .int .i64 i ∧ Hid (CkJ w.heap.size (pn, pL, (Lf.take i).foldl (fStep pq) pv) (ckF w.heap.size) wr) ∧ Hid (Owns w4 wr (ckF w.heap.size) (ckF w.heap.size))) (fun a_ _ => m - (intOf a_).toNat)
   case atStart => exact ⟨0, Nat.zero_le _, rfl, HJ4, h_ (Owns.refl _ _)⟩
   case round =>
    obtain ⟨i2, hi2, rfl, hJ2, hO2⟩ := hrel
    have hso2 := hO2.out.size
    by_cases hlt2 : i2 < m
    ·obtain ⟨g, c, nm, hv, hnmL, hcell⟩ := str_at HO4.out HM.out hO2.out (fun b hb => by rcases hb with (e | e | e) <;> omega) i2 hlt2
     injection hv with hv1 hv2 hv3
     subst hv1; subst hv3
     have hnsz := HSZF.out nm (List.mem_of_getElem? hnmL)
     have hstep := foldl_take_succ (fStep pq) pv hnmL
     obtain ⟨q, hq⟩ : ∃ q, q = (Lf.take i2).foldl (fStep pq) pv := ⟨_, rfl⟩
     rw [← hq] at hJ2 hstep
     have HST := h_ hstep
     have d4 : wr.cell? ⟨w.heap.size + 1 + 1, 0, none⟩ = some (.bool q) := cell_of_blk hJ2.out.2.1 rfl
     have f4 : wr.frozen? ⟨w.heap.size + 1 + 1, 0, none⟩ = false := fz_of_blk hJ2.out.2.1
     have HQ5 := h_ (show MapB wr w2.heap.size i pq from HQ4.out.keep (hO2.out.same _ (by have := HQL.out; omega) (by rintro (e | e | e) <;> omega)))
     obtain ⟨z, hz⟩ : ∃ z : Bool, z = decide (nm ∈ pq) := ⟨_, rfl⟩
     have HZ := h_ hz
     clear hz hq hstep hnmL
     cases z
     ·go_wp2_with (first
       |(at_lookup; refine wpList_lookupB _ rfl _ _ rfl w2.heap.size i pq rfl HQ5.out nm rfl hnsz ?_; intro c hc; obtain rfl : c = false := hc.out.trans HZ.out.symm; clear hc))
      have e : fStep pq q nm = q := by unfold fStep; rw [if_neg (of_decide_eq_false HZ.out.symm)]
      refine ⟨⟨i2 + 1, by omega, rfl, ?_, hO2⟩, ?_⟩
      ·rw [HST.out, e]; exact hJ2
      ·show m - ((i2 : Int) + 1).toNat < m - (i2 : Int).toNat
       omega
     ·go_wp2_with (first
       |(at_lookup; refine wpList_lookupB _ rfl _ _ rfl w2.heap.size i pq rfl HQ5.out nm rfl hnsz ?_; intro c hc; obtain rfl : c = true := hc.out.trans HZ.out.symm; clear hc))
      have e : fStep pq q nm = false := by unfold fStep; rw [if_pos (of_decide_eq_true HZ.out.symm)]
      refine ⟨⟨i2 + 1, by omega, rfl, ?_, ?_⟩, ?_⟩
      ·rw [HST.out, e]; exact h_ (hJ2.out.setV false)
      ·exact h_ (hO2.out.trans (Owns.set _ ⟨w.heap.size + 1 + 1, 0, none⟩ (.bool false) _ (.inr (.inr rfl))))
      ·show m - ((i2 : Int) + 1).toNat < m - (i2 : Int).toNat
       omega
    ·obtain rfl : i2 = m := by omega
     have hV2 : (Lf.take i2).foldl (fStep pq) pv = ckOk f := by
      rw [HM.out, List.take_length, HLF.out]; unfold ckOk; rw [← HP.out]
     rw [hV2] at hJ2
     have hbE : Below w.heap.size w wr := HBL4.out.trans (hO2.out.below (by omega) (by rintro b (e | e | e) <;> omega))
     have HE := h_ hbE
     obtain ⟨q, hq⟩ : ∃ q, q = ckOk f := ⟨_, rfl⟩
     rw [← hq] at hJ2
     have HQE := h_ hq
     have d4 : wr.cell? ⟨w.heap.size + 1 + 1, 0, none⟩ = some (.bool q) := cell_of_blk hJ2.out.2.1 rfl
     have f4 : wr.frozen? ⟨w.heap.size + 1 + 1, 0, none⟩ = false := fz_of_blk hJ2.out.2.1
     clear hq hbE hV2
     cases q
     ·go_wp2
      go_ret
      exact ⟨rfl, HE.out⟩
     ·have h1 := HQE.out
      rw [HBAD.out] at h1
      cases h1
end Dc
end Go.Proofs.YteneobpacobpdaaGreatDoor
