/-
  formula.walk: it calls use for each name of a formula, from left to right, with the counts of the quantifiers around it.
-/
import Derived.Test.YteneobpacobpdaaGreatDoorHy
import Derived.Test.YteneobpacobpdaaGreatDoorFmU
import Derived.Test.YteneobpacobpdaaGreatDoorFmM
import Derived.Lib.QuietBelow
set_option linter.unusedSimpArgs false
set_option linter.unusedVariables false
set_option maxRecDepth 100000
set_option maxHeartbeats 16000000
namespace Go.Proofs.YteneobpacobpdaaGreatDoor
open Go.RowKit
namespace Fm
attribute [local go_sem] run_store taAtom_yes taAtom_no taAtom_nil taQuant_yes taQuant_no taQuant_nil
structure WUse {σ : Type} (fid : FuncId) (caps : Array Value) (J : σ → (Nat → Prop) → World → Prop) (M : Nat) (step : σ → (ByteArray → Int) → ByteArray → σ) (cnt : σ → Nat) : Prop where
 le : ∀ s g nm, cnt (step s g nm) ≤ cnt s + 1
 lt : ∀ {s F W}, J s F W → ∀ b, F b → b < W.heap.size
 keep : ∀ {s F W W'}, J s F W → W.heap.size ≤ W'.heap.size → (∀ b, F b → W'.heap[b]? = W.heap[b]?) → J s F W'
 cf : ∀ args w, (callFunc fid args).run Tryz.prog w = .ok (.enter fid args) w
 call : ∀ s g k F W nm, nm.size ≤ 9223372036854775807 → cnt s < 900000 → J s F W → MapI W M k g → ¬ F M → Calls Tryz.prog fid (#[.string nm] ++ caps) W fun e W' => e = .returned (.tuple #[]) ∧ ∃ F', J (step s g nm) F' W' ∧ Owns W W' F F'
def incG (g : ByteArray → Int) (nm : ByteArray) : ByteArray → Int := fun t => if t = nm then g nm + 1 else g t
theorem incG_back (g : ByteArray → Int) (nm : ByteArray) : (fun t => if t = nm then incG g nm nm - 1 else incG g nm t) = g := by
 funext t
 unfold incG
 by_cases e : t = nm
 ·subst e; simp
 ·simp [e]
def walkS {σ : Type} (step : σ → (ByteArray → Int) → ByteArray → σ) : Fo → (ByteArray → Int) → σ → σ
 | .atom l _ r, g, s => (namesT r).foldl (fun s nm => step s g nm) ((namesT l).foldl (fun s nm => step s g nm) s)
 | .not f, g, s => walkS step f g s
 | .and l r, g, s => walkS step r g (walkS step l g s)
 | .or l r, g, s => walkS step r g (walkS step l g s)
 | .implies l r, g, s => walkS step r g (walkS step l g s)
 | .iff l r, g, s => walkS step r g (walkS step l g s)
 | .quant _ nm f, g, s => walkS step f (incG g nm) s
 | _, _, s => s
theorem walkS_sub {σ : Type} (step : σ → (ByteArray → Int) → ByteArray → σ) (f : Fo) (ha : ∀ l e r, f ≠ .atom l e r) (hq : ∀ a n b, f ≠ .quant a n b) (g : ByteArray → Int) (s : σ) : walkS step f g s = (subF f).foldl (fun s k => walkS step k g s) s := by
 cases f <;> first | rfl | (exact absurd rfl (ha _ _ _)) | (exact absurd rfl (hq _ _ _))
theorem foldl_at {α σ : Type} (h : σ → α → σ) (s : σ) {l : List α} {i : Nat} {x : α} (hx : l[i]? = some x) : (l.take (i + 1)).foldl h s = h ((l.take i).foldl h s) x := by
 obtain ⟨hi, rfl⟩ := List.getElem?_eq_some_iff.1 hx
 rw [List.take_succ_eq_append_getElem hi, List.foldl_append]; rfl
def fsz : Fo → Nat
 | .atom l _ r => (namesT l).length + (namesT r).length + 1
 | .not f => fsz f + 1
 | .and l r => fsz l + fsz r + 1
 | .or l r => fsz l + fsz r + 1
 | .implies l r => fsz l + fsz r + 1
 | .iff l r => fsz l + fsz r + 1
 | .quant _ _ f => fsz f + 1
 | _ => 1
def fszL : List Fo → Nat
 | [] => 0
 | k :: l => fsz k + fszL l
theorem fszL_sub (f : Fo) : fszL (subF f) + 1 ≤ fsz f := by cases f <;> simp [subF, fszL, fsz] <;> omega
theorem fszL_take (l : List Fo) (i : Nat) : fszL (l.take i) ≤ fszL l := by
 induction l generalizing i with
 | nil => simp
 | cons k l ih =>
  match i with
  | 0 => simp [fszL]
  | i + 1 => rw [List.take_succ_cons]; unfold fszL; have := ih i; omega
theorem fszL_succ (l : List Fo) (i : Nat) (k : Fo) (h : l[i]? = some k) : fszL (l.take (i + 1)) = fszL (l.take i) + fsz k := by
 induction l generalizing i with
 | nil => simp at h
 | cons a l ih =>
  match i with
  | 0 => simp at h; subst h; simp [fszL]
  | i + 1 => rw [List.take_succ_cons, List.take_succ_cons]; unfold fszL; rw [ih i (by simpa using h)]; omega
def addM (F : Nat → Prop) (M : Nat) : Nat → Prop := fun b => F b ∨ b = M
theorem Owns.addM {W W' : World} {F F' : Nat → Prop} (h : Owns W W' F F') (M : Nat) : Owns W W' (addM F M) (Fm.addM F' M) :=
 ⟨h.os, h.tape, h.output, h.size, fun b hb hF => h.same b hb (fun e => hF (.inl e)), fun b hb => by
  rcases hb with e | e
  ·rcases h.foot b e with e | e
   ·exact .inl (.inl e)
   ·exact .inr e
  ·exact .inl (.inr e)⟩
theorem Owns.of_map {W W' : World} {M : Nat} (h : W.grownBy W' (some M)) (F : Nat → Prop) : Owns W W' (Fm.addM F M) (Fm.addM F M) :=
 ⟨h.os, h.tape, h.output, h.size, fun b hb hF => h.block b hb (fun e => hF (.inr (by injection e))), fun b h => .inl h⟩
section
variable {σ : Type} {fid : FuncId} {caps : Array Value} {J : σ → (Nat → Prop) → World → Prop} {M : Nat} {step : σ → (ByteArray → Int) → ByteArray → σ} {cnt : σ → Nat}
theorem WUse.at (U : WUse fid caps J M step cnt) (g : ByteArray → Int) (k : Nat) : UseOk fid caps (fun s F W => J s F W ∧ MapI W M k g ∧ ¬ F M) (fun s nm => step s g nm) cnt where
 le := fun s nm => U.le s g nm
 lt := fun h => U.lt h.1
 below := fun h hb => ⟨U.keep h.1 hb.size (fun b hF => hb.block b (U.lt h.1 b hF)), h.2.1.keep (hb.block _ h.2.1.lt), h.2.2⟩
 cf := U.cf
 call := fun s F W nm hn hc h => (U.call s g k F W nm hn hc h.1 h.2.1 h.2.2).mono fun e W' hp => by
  obtain ⟨rfl, F', hJ, ho⟩ := hp
  exact ⟨rfl, F', ⟨hJ, h.2.1.keep (ho.same _ h.2.1.lt h.2.2), ho.foot' h.2.1.lt h.2.2⟩, ho⟩
def WRel (J : σ → (Nat → Prop) → World → Prop) (M : Nat) (s' : σ) (g : ByteArray → Int) (kmax : Nat) (F : Nat → Prop) (W W' : World) : Prop :=
 ∃ F' k', J s' F' W' ∧ MapI W' M k' g ∧ k' ≤ kmax ∧ ¬ F' M ∧ Owns W W' (addM F M) (addM F' M)
def WPost (J : σ → (Nat → Prop) → World → Prop) (M : Nat) (s' : σ) (g : ByteArray → Int) (kmax : Nat) (F : Nat → Prop) (W : World) (e : Ending) (W' : World) : Prop :=
 e = .returned (.tuple #[]) ∧ WRel J M s' g kmax F W W'
theorem WRel.below {s' : σ} {g : ByteArray → Int} {kmax : Nat} {F : Nat → Prop} {W W' W2 : World} (U : WUse fid caps J M step cnt) (h : WRel J M s' g kmax F W W') (hb : Below W'.heap.size W' W2) : WRel J M s' g kmax F W W2 := by
 obtain ⟨F', k', hJ, hM, hk, hF, ho⟩ := h
 exact ⟨F', k', U.keep hJ hb.size (fun b hF => hb.block b (U.lt hJ b hF)), hM.keep (hb.block _ hM.lt), hk, hF, ho.trans (Owns.of_below hb _)⟩
theorem WRel.start {s : σ} {g : ByteArray → Int} {k : Nat} {F : Nat → Prop} {W : World} (hJ : J s F W) (hM : MapI W M k g) (hF : ¬ F M) : WRel J M s g k F W W := ⟨F, k, hJ, hM, Nat.le_refl _, hF, Owns.refl _ _⟩
theorem WRel.more {s : σ} {g : ByteArray → Int} {k k' : Nat} {F : Nat → Prop} {W W' : World} (h : WRel J M s g k F W W') (hk : k ≤ k') : WRel J M s g k' F W W' := by
 obtain ⟨F', k1, hJ, hM, h1, hF, ho⟩ := h
 exact ⟨F', k1, hJ, hM, Nat.le_trans h1 hk, hF, ho⟩
theorem cntW (U : WUse fid caps J M step cnt) (f : Fo) : ∀ (g : ByteArray → Int) (s : σ), cnt (walkS step f g s) ≤ cnt s + fsz f := by
 induction f with
 | odd => intro g s; simp [walkS]
 | truth b => intro g s; simp [walkS]
 | atom l e r =>
  intro g s
  unfold walkS fsz
  have h1 := cnt_fold (U.at g 0) (namesT l) s
  have h2 := cnt_fold (U.at g 0) (namesT r) ((namesT l).foldl (fun s nm => step s g nm) s)
  omega
 | not f ih => intro g s; unfold walkS fsz; have := ih g s; omega
 | and l r il ir => intro g s; unfold walkS fsz; have := il g s; have := ir g (walkS step l g s); omega
 | or l r il ir => intro g s; unfold walkS fsz; have := il g s; have := ir g (walkS step l g s); omega
 | implies l r il ir => intro g s; unfold walkS fsz; have := il g s; have := ir g (walkS step l g s); omega
 | iff l r il ir => intro g s; unfold walkS fsz; have := il g s; have := ir g (walkS step l g s); omega
 | quant a n f ih => intro g s; unfold walkS fsz; have := ih (incG g n) s; omega
theorem cntL (U : WUse fid caps J M step cnt) (g : ByteArray → Int) (l : List Fo) : ∀ (s : σ), cnt (l.foldl (fun s k => walkS step k g s) s) ≤ cnt s + fszL l := by
 induction l with
 | nil => intro s; simp [fszL]
 | cons a l ih => intro s; rw [List.foldl_cons]; unfold fszL; have := ih (walkS step a g s); have := cntW U a g s; omega
def WalkOk (fid : FuncId) (caps : Array Value) (J : σ → (Nat → Prop) → World → Prop) (M : Nat) (step : σ → (ByteArray → Int) → ByteArray → σ) (cnt : σ → Nat) (f : Fo) : Prop :=
 ∀ (v : Value) (S F : Nat → Prop) (s : σ) (g : ByteArray → Int) (k d : Nat) (w : World), (∀ b, S b → b < w.heap.size ∧ ¬ addM F M b) → FoAt w S f v → J s F w → MapI w M k g → ¬ F M → k + 2 * fsz f ≤ 900000 → (∀ x, 0 ≤ g x ∧ g x ≤ d) → d + fsz f ≤ 900000 → cnt s + fsz f ≤ 900000 →
  Calls Tryz.prog 28 #[v, .map (some M), .func (.func fid) #[] caps] w (WPost J M (walkS step f g s) g (k + 2 * fsz f) F w)
theorem walk_atom (U : WUse fid caps J M step cnt) (l : Tm) (rel : Int) (r : Tm) : WalkOk fid caps J M step cnt (.atom l rel r) := by
 intro v S F s g k d w hS hT hJ hM hFM hk hg hd hcn
 obtain ⟨vl, vr, rfl, hl, hr⟩ := hT
 show Calls Tryz.prog 28 #[.iface 51 (.agg #[vl, .int .i64 rel, vr]), .map (some M), .func (.func fid) #[] caps] w _
 obtain ⟨W, hW⟩ : ∃ W, w.alloc (.cells #[vl, .int .i64 rel, vr] 51) = W := ⟨_, rfl⟩
 have hx : Box w W w.heap.size #[vl, .int .i64 rel, vr] 51 := by rw [← hW]; exact Box.new w _ _
 have s0 : W.cell? ⟨w.heap.size, 0, none⟩ = some vl := hx.cell 0
 have s2 : W.cell? ⟨w.heap.size, 2, none⟩ = some vr := hx.cell 2
 have hc0 := hl.one
 have hc2 := hr.one
 have hSF : ∀ b, S b → b < w.heap.size ∧ ¬ F b := fun b hb => ⟨(hS b hb).1, fun h => (hS b hb).2 (.inl h)⟩
 have hJ1 := (U.at g k).below (s := s) (F := F) (W := w) ⟨hJ, hM, hFM⟩ hx.below
 have hS1 := S_owns (Owns.of_below hx.below F) hSF
 have hcn1 : cnt s + (namesT l).length + (namesT r).length + 1 ≤ 900000 := by unfold fsz at hcn; omega
 have hcn2 := cnt_fold (U.at g k) (namesT l) s
 have HC1 := h_ (occ_any (U.at g k) l vl S F s W hS1 (hl.below (fun b hb => (hSF b hb).1) hx.below) hJ1 (by omega))
 have HCN : Hid (cnt ((namesT l).foldl (fun s nm => step s g nm) s) + (namesT r).length ≤ 900000) := h_ (by omega)
 have HR := h_ (hr.below (fun b hb => (hSF b hb).1) hx.below)
 have HS1 := h_ hS1
 have HLT := h_ (U.lt hJ)
 have hWs : w.heap.size < W.heap.size := hx.lt
 have HX := h_ hx
 have HU := h_ U
 clear hx hJ1 hS hSF hS1 hl hr hJ hM hg hcn hcn1 hcn2
 go_enter Tryz.func28, Tryz.ntmps28
 go_wp2_with (first
  |(go_at_call 53; (with_reducible refine HC1.out.mono ?_); intro e w1 hp; obtain ⟨rfl, F1, hJ1, ho1⟩ := hp; clear hW; have hs1 : w1.cell? ⟨w.heap.size, 2, none⟩ = some vr := (ho1.cell (p := ⟨w.heap.size, 2, none⟩) hWs (fun h => by have := HLT.out _ h; simp at this)).trans s2; have HC2 := h_ (occ_any (HU.out.at g k) r vr S F1 _ w1 (S_owns ho1 HS1.out) (TmAt.owns HR.out ho1 HS1.out) hJ1 HCN.out); have HO1 := h_ ho1; clear ho1 hJ1 s0 s2)
  |(go_at_call 53; (with_reducible refine HC2.out.mono ?_); intro e w2 hp; obtain ⟨rfl, F2, hJ2, ho2⟩ := hp; have HJ2 := h_ hJ2; have HO2 := h_ ho2; clear hJ2 ho2 hs1)
  |(go_at_call 54; refine (parts_Atom vl vr rel _).mono ?_; intro e w3 hp; obtain ⟨A, c, rfl, _, hb3⟩ := hp))
 refine wp_loop_rounds 1 ?_
 rw [rounds_succ]
 go_wp2
 go_end0
 have h0 : WRel J M (walkS step (.atom l rel r) g s) g k F W w2 := ⟨F2, k, HJ2.out.1, HJ2.out.2.1, Nat.le_refl _, HJ2.out.2.2, (HO1.out.trans HO2.out).addM M⟩
 have hb23 : Below w2.heap.size w2 w3 := ((Below.refl _ _).alloc (Nat.le_refl _) _).trans (hb3.mono (by simp))
 obtain ⟨F', k', hJ', hM', hk', hF', ho'⟩ := h0.below HU.out hb23
 exact ⟨rfl, F', k', hJ', hM', by omega, hF', (Owns.of_below HX.out.below _).trans ho'⟩
theorem walk_quant (U : WUse fid caps J M step cnt) (all : Bool) (nm : ByteArray) (f : Fo) (ih : WalkOk fid caps J M step cnt f) : WalkOk fid caps J M step cnt (.quant all nm f) := by
 intro v S F s g k d w hS hT hJ hM hFM hk hg hd hcn
 obtain ⟨vf, rfl, hnm, hf⟩ := hT
 show Calls Tryz.prog 28 #[.iface 99 (.agg #[.bool all, .string nm, vf]), .map (some M), .func (.func fid) #[] caps] w _
 obtain ⟨W, hW⟩ : ∃ W, (w.alloc (.cells #[.nilIface, .int .i64 0, .nilIface] 51)).alloc (.cells #[.bool all, .string nm, vf] 99) = W := ⟨_, rfl⟩
 have hx : Box w W (w.heap.size + 1) #[.bool all, .string nm, vf] 99 := by rw [← hW]; exact Box.second w _ _ _
 have s1 : W.cell? ⟨w.heap.size + 1, 1, none⟩ = some (.string nm) := hx.cell 1
 have hc0 := hf.one
 have hc1 := cells_one hf.one
 simp only [Value.cells] at hc1
 have hSF : ∀ b, S b → b < w.heap.size ∧ ¬ addM F M b := hS
 have HJ := h_ (U.keep hJ hx.below.size (fun b hF => hx.below.block b (U.lt hJ b hF)))
 have HMW := h_ (hM.keep (hx.below.block _ hM.lt))
 have hmlt := hM.lt
 have HT := h_ (hf.below (fun b hb => (hS b hb).1) hx.below)
 have HS := h_ (S_owns (Owns.of_below hx.below (addM F M)) hS)
 have HLT := h_ (U.lt hJ)
 have hWs : w.heap.size + 1 < W.heap.size := hx.lt
 have HX := h_ hx
 have HU := h_ U
 have HG := h_ hg
 have HF := h_ hFM
 have IH := h_ ih
 have hk' : k + 2 * fsz f + 2 ≤ 900000 := by have := hk; unfold fsz at this; omega
 have hd' : d + fsz f + 1 ≤ 900000 := by have := hd; unfold fsz at this; omega
 have hbk := incG_back g nm
 have hcn1 : cnt s + fsz f ≤ 900000 := by unfold fsz at hcn; omega
 have HCN := h_ hcn1
 have HBK := h_ hbk
 clear hx hS hSF hJ hM hg hf hFM ih U hk hd hbk hcn hcn1
 go_enter Tryz.func28, Tryz.ntmps28
 go_wp2_with (first
  |(at_lookup; refine wpList_lookupI _ rfl _ _ rfl M k g rfl HMW.out nm rfl hnm ?_; intro c hc; have hc2 : 0 ≤ c ∧ c ≤ d := by rw [hc.out]; exact HG.out nm)
  |(at_mapUpdate; refine wpList_storeI _ rfl _ _ _ rfl M k g rfl HMW.out (by omega) nm rfl hnm (c + 1) rfl (by omega) ?_; intro w2 hm2 hg2; have HM2 := h_ hm2; have HG2 := h_ hg2; clear hm2 hg2 hW)
  |(go_at_call 54; refine (parts_Quant all nm vf _ hc0).mono ?_; intro e w3 hp; obtain ⟨A, n3, rfl, hss, hb3⟩ := hp; have HSS := h_ hss; have HB3 := h_ hb3; clear hss hb3))
 obtain ⟨b, o, rfl, hb, hcell⟩ := HSS.out.at_ (by simp)
 have hc3 : w3.cell? ⟨b, o, none⟩ = some vf := hcell 0 vf rfl
 have hO23 : Owns W w3 (addM F M) (addM F M) := (Owns.of_map HG2.out F).trans (Owns.of_below HB3.out _)
 have hM3 : MapI w3 M (k + 1) (incG g nm) := by
  have h := HM2.out.keep (HB3.out.block M HM2.out.lt)
  rw [hc.out] at h
  exact h
 have hJ3 : J s F w3 := HU.out.keep HJ.out (Nat.le_trans HG2.out.size HB3.out.size) (fun b hF => by
  have h1 := HLT.out b hF
  have h2 : b < w2.heap.size := by have := HG2.out.size; omega
  exact (HB3.out.block b h2).trans (HG2.out.block b (by omega) (fun e => by injection e with e; subst e; exact HF.out hF)))
 have hc' := hc.out
 have HC := h_ (IH.out vf S F s (incG g nm) (k + 1) (d + 1) w3 (S_owns hO23 HS.out) (HT.out.owns hO23 HS.out) hJ3 hM3 HF.out (by omega) (fun x => by
  have h := HG.out x
  have h' := HG.out nm
  unfold incG
  by_cases e : x = nm
  ·rw [if_pos e]; omega
  ·rw [if_neg e]; omega) (by omega) HCN.out)
 have HO23 := h_ hO23
 have HCE := h_ hc'
 clear hcell hb hM3 hJ3 hO23 hc hc'
 refine wp_loop_rounds 2 ?_
 rw [rounds_succ]
 go_wp2_with (first
  |(go_at_call 28; refine HC.out.mono ?_; intro e w4 hp; obtain ⟨rfl, F4, k4, hJ4, hM4, hk4, hF4, ho4⟩ := hp; have HJ4 := h_ hJ4; have HM4 := h_ hM4; have HF4 := h_ hF4; have HO4 := h_ ho4; clear hJ4 hM4 hF4 ho4))
 have hs4 : w4.cell? ⟨w.heap.size + 1, 1, none⟩ = some (.string nm) := by
  have h1 := (HO23.out.trans HO4.out).cell (p := ⟨w.heap.size + 1, 1, none⟩) hWs (fun h => by
   rcases h with h | h
   ·have h9 : w.heap.size + 1 < w.heap.size := HLT.out _ h
    omega
   ·have h9 : w.heap.size + 1 = M := h
    omega)
  exact h1.trans s1
 have hinc : incG g nm nm = c + 1 := by unfold incG; rw [if_pos rfl, HCE.out]
 have HINC := h_ hinc
 clear hinc s1 hc3
 rw [rounds_succ]
 go_wp2_with (first
  |(at_lookup; refine wpList_lookupI _ rfl _ _ rfl M k4 (incG g nm) rfl HM4.out nm rfl hnm ?_; intro c4 hc4; have hc5 : c4 = c + 1 := hc4.out.trans HINC.out; have hc6 : 1 ≤ c4 ∧ c4 ≤ d + 1 := (by omega); clear hc5)
  |(at_mapUpdate; refine wpList_storeI _ rfl _ _ _ rfl M k4 (incG g nm) rfl HM4.out (by omega) nm rfl hnm (c4 - 1) rfl (by omega) ?_; intro w5 hm5 hg5; have HM5 := h_ hm5; have HG5 := h_ hg5; clear hm5 hg5))
 go_end0
 have hM5 : MapI w5 M (k4 + 1) g := by
  have h := HM5.out
  rw [hc4.out, HBK.out] at h
  exact h
 refine ⟨rfl, F4, k4 + 1, ?_, hM5, by unfold fsz; omega, HF4.out, ((Owns.of_below HX.out.below _).trans (HO23.out.trans HO4.out)).trans (Owns.of_map HG5.out F4)⟩
 exact HU.out.keep HJ4.out HG5.out.size (fun b hF => HG5.out.block b (HU.out.lt HJ4.out b hF) (fun e => by injection e with e; subst e; exact HF4.out hF))
def Oth (v : Value) : Prop := v = .nilIface ∨ ∃ u x, v = .iface u x ∧ u ≠ 51 ∧ u ≠ 99
theorem oth_of {w : World} {S : Nat → Prop} {f : Fo} {v : Value} (hT : FoAt w S f v) (ha : ∀ l e r, f ≠ .atom l e r) (hq : ∀ a n b, f ≠ .quant a n b) : Oth v := by
 cases f with
 | odd =>
  rcases hT with rfl | ⟨u, a, rfl, hu⟩
  ·exact .inl rfl
  ·exact .inr ⟨u, _, rfl, fun e => hu (by rw [e]; decide), fun e => hu (by rw [e]; decide)⟩
 | truth b => cases hT; exact .inr ⟨_, _, rfl, by decide, by decide⟩
 | atom l e r => exact absurd rfl (ha _ _ _)
 | quant a n b => exact absurd rfl (hq _ _ _)
 | not f => obtain ⟨vt, rfl, _⟩ := hT; exact .inr ⟨_, _, rfl, by decide, by decide⟩
 | and l r => obtain ⟨vl, vr, rfl, _⟩ := hT; exact .inr ⟨_, _, rfl, by decide, by decide⟩
 | or l r => obtain ⟨vl, vr, rfl, _⟩ := hT; exact .inr ⟨_, _, rfl, by decide, by decide⟩
 | implies l r => obtain ⟨vl, vr, rfl, _⟩ := hT; exact .inr ⟨_, _, rfl, by decide, by decide⟩
 | iff l r => obtain ⟨vl, vr, rfl, _⟩ := hT; exact .inr ⟨_, _, rfl, by decide, by decide⟩
theorem oth_atom {v : Value} (h : Oth v) (w : World) : (Instr.typeAssert v 24 51 true).run Tryz.prog w = .ok (.tuple #[.agg #[.nilIface, .int .i64 0, .nilIface], .bool false]) w := by
 rcases h with rfl | ⟨u, x, rfl, hu, _⟩
 ·exact taAtom_nil w
 ·exact taAtom_no u x w hu
theorem oth_quant {v : Value} (h : Oth v) (w : World) : (Instr.typeAssert v 24 99 true).run Tryz.prog w = .ok (.tuple #[.agg #[.bool false, .string ⟨#[]⟩, .nilIface], .bool false]) w := by
 rcases h with rfl | ⟨u, x, rfl, _, hu⟩
 ·exact taQuant_nil w
 ·exact taQuant_no u x w hu
theorem walk_other (U : WUse fid caps J M step cnt) (f : Fo) (ha : ∀ l e r, f ≠ .atom l e r) (hq : ∀ a n b, f ≠ .quant a n b) (ih : ∀ k ∈ subF f, WalkOk fid caps J M step cnt k) : WalkOk fid caps J M step cnt f := by
 intro v S F s g k d w hS hT hJ hM hFM hk hg hd hcn
 have hoth := oth_of hT ha hq
 have hta := oth_atom hoth
 have htq := oth_quant hoth
 obtain ⟨W, hW⟩ : ∃ W, (w.alloc (.cells #[.nilIface, .int .i64 0, .nilIface] 51)).alloc (.cells #[.bool false, .string ⟨#[]⟩, .nilIface] 99) = W := ⟨_, rfl⟩
 have hbW : Below w.heap.size w W := by rw [← hW]; exact (Box.second w _ _ _).below
 have hTW : FoAt W S f v := hT.below (fun b hb => (hS b hb).1) hbW
 obtain ⟨vs, hvs, hsub⟩ := parts_any f v S W hTW
 obtain ⟨n, hn⟩ : ∃ n, n = vs.length := ⟨_, rfl⟩
 have hlt := U.lt hJ
 have hSW := S_owns (Owns.of_below hbW (addM F M)) hS
 have HJW := h_ (U.keep hJ hbW.size (fun b hF => hbW.block b (hlt b hF)))
 have HMW := h_ (hM.keep (hbW.block _ hM.lt))
 have HF := h_ hFM
 have hn64 : n ≤ 2 := by rw [hn, hvs.1]; cases f <;> simp [subF]
 have hfs := fszL_sub f
 have HML := h_ hM.lt
 have IH := h_ ih
 have HU := h_ U
 have HVS := h_ hvs
 have HSUB := h_ hsub
 have HN := h_ hn
 have HLT := h_ hlt
 have HSW := h_ hSW
 have HBW := h_ hbW
 have HW := h_ hW
 have HG := h_ hg
 have HCN := h_ hcn
 have HWS := h_ (walkS_sub step f ha hq g s)
 clear hW ih hbW hTW hvs hsub hn hlt hJ hS hT hSW hM hFM hg hoth ha hq U hcn
 go_enter Tryz.func28, Tryz.ntmps28
 go_wp2_with (first
  |(go_at_call 54; rw [HW.out]; refine HSUB.out.mono ?_; intro e w1 hp; obtain ⟨A, c, he, hss, hb1⟩ := hp; rw [← HN.out] at he hss; subst he; have HSS := h_ hss; have HB1 := h_ hb1; clear hss hb1 hta htq))
 have HFM : Hid (∀ b, addM F M b → b < W.heap.size) := h_ (fun b hb => by
  have h1 := HBW.out.size
  rcases hb with h | h
  ·have := HLT.out b h; omega
  ·rw [h]; have := HML.out; omega)
 go_loopw [40] (fun a_ wr => ∃ (i : Nat), i ≤ n ∧ a_ = .int .i64 i ∧ WRel J M (((subF f).take i).foldl (fun s k => walkS step k g s) s) g (k + 2 * fszL ((subF f).take i)) F w1 wr) (fun a_ _ => n - (intOf a_).toNat)
 case atStart => exact ⟨0, Nat.zero_le _, rfl, by simpa [fszL] using WRel.start (HU.out.keep HJW.out HB1.out.size (fun b hF => HB1.out.block b (HU.out.lt HJW.out b hF))) (HMW.out.keep (HB1.out.block _ HMW.out.lt)) HF.out⟩
 case round =>
  obtain ⟨i, hi, rfl, hrel⟩ := hrel
  by_cases hlt : i < n
  ·obtain ⟨F', k', hJ', hM', hk', hF', ho⟩ := hrel
   obtain ⟨kd, x, b, o, hkd, hTk, rfl, hcell⟩ := subF_at HSS.out HVS.out HFM.out ho i hlt HN.out
   have hoW := (Owns.of_below HB1.out (addM F M)).trans ho
   have hSr := S_owns hoW HSW.out
   have hT2 : FoAt wr S kd x := hTk.owns hoW HSW.out
   have hfi := fszL_succ (subF f) i kd hkd
   have hfl := fszL_take (subF f) (i + 1)
   have hcl := cntL HU.out g ((subF f).take i) s
   have HC := h_ (IH.out kd (mem_at hkd) x S F' _ g k' d wr hSr hT2 hJ' hM' hF' (by omega) HG.out (by omega) (by have := HCN.out; omega))
   clear hcl
   have HFL := h_ (foldl_at (fun s k => walkS step k g s) s hkd)
   have HO := h_ ho
   clear hT2 hSr hoW ho hJ' hM' hkd hTk
   go_wp2_with (first | (go_at_call 28; refine HC.out.mono ?_; intro e w2 hp; obtain ⟨rfl, hp⟩ := hp; have HP := h_ hp; clear hp))
   go_roundw
   case rel =>
    obtain ⟨F2, k2, hJ2, hM2, hk2, hF2, ho2⟩ := HP.out
    exact ⟨i + 1, by omega, by go_num, F2, k2, by rw [HFL.out]; exact hJ2, hM2, by omega, hF2, HO.out.trans ho2⟩
   case measure => simp [intOf]; omega
  ·have HP := h_ hrel
   have HI := h_ (show (subF f).take i = subF f from List.take_of_length_le (by rw [← HVS.out.1, ← HN.out]; omega))
   clear hrel
   go_wp2
   go_end0
   obtain ⟨F2, k2, hJ2, hM2, hk2, hF2, ho2⟩ := HP.out
   rw [HI.out] at hJ2 hk2
   rw [← HWS.out] at hJ2
   exact ⟨rfl, F2, k2, hJ2, hM2, by omega, hF2, ((Owns.of_below HBW.out _).trans (Owns.of_below HB1.out _)).trans ho2⟩
theorem walk_any (U : WUse fid caps J M step cnt) : ∀ f, WalkOk fid caps J M step cnt f := by
 refine Fo.ind fun f ih => ?_
 by_cases ha : ∃ l e r, f = .atom l e r
 ·obtain ⟨l, e, r, rfl⟩ := ha; exact walk_atom U l e r
 ·by_cases hq : ∃ a n b, f = .quant a n b
  ·obtain ⟨a, n, b, rfl⟩ := hq; exact walk_quant U a n b (ih b (by simp [subF]))
  ·exact walk_other U f (fun l e r h => ha ⟨l, e, r, h⟩) (fun a n b h => hq ⟨a, n, b, h⟩) ih
end
end Fm
end Go.Proofs.YteneobpacobpdaaGreatDoor
namespace Go.Proofs.YteneobpacobpdaaGreatDoor
open Go.RowKit Go.Sort
namespace Fm
attribute [local go_sem] run_store taAtom_yes taAtom_no taAtom_nil
def tn : Tm → Nat
 | .add l r => tn l + tn r + 1
 | .sub l r => tn l + tn r + 1
 | .mul l r => tn l + tn r + 1
 | .neg t => tn t + 1
 | .pow t _ => tn t + 1
 | _ => 1
def fnn : Fo → Nat
 | .atom l _ r => tn l + tn r + 1
 | .not f => fnn f + 1
 | .and l r => fnn l + fnn r + 1
 | .or l r => fnn l + fnn r + 1
 | .implies l r => fnn l + fnn r + 1
 | .iff l r => fnn l + fnn r + 1
 | .quant _ _ f => fnn f + 1
 | _ => 1
def atomsF : Fo → Nat
 | .atom _ _ _ => 1
 | .not f => atomsF f
 | .and l r => atomsF l + atomsF r
 | .or l r => atomsF l + atomsF r
 | .implies l r => atomsF l + atomsF r
 | .iff l r => atomsF l + atomsF r
 | .quant _ _ f => atomsF f
 | _ => 0
end Fm
end Go.Proofs.YteneobpacobpdaaGreatDoor
namespace Go.Proofs.YteneobpacobpdaaGreatDoor
open Go.RowKit Go.Sort
namespace Fm
attribute [local go_sem] run_store taAtom_yes taAtom_no taAtom_nil
end Fm
end Go.Proofs.YteneobpacobpdaaGreatDoor
