/-
  right, texts, formula.Bound.
-/
import Derived.Test.YtjbgdaojhdobkaaFmX
import Derived.Test.YtjbgdaojhdobkaaFmE
import Derived.Test.YtjbgdaojhdobkaaFmS
import Derived.Deep.QuietTactic
import Derived.BigQuiet
import Derived.Lib.SlicesS
namespace Go.Proofs.Ytjbgdaojhdobkaa
open Go.RowKit
set_option linter.unusedSimpArgs false
set_option linter.unusedVariables false
namespace Fm
attribute [local go_sem] run_store taQuant_yes taQuant_no taQuant_nil

def rightB (t : Tr) : Bool := fewB t 300 && isF t false
set_option maxRecDepth 100000 in
set_option maxHeartbeats 2000000 in
theorem right_any (t : Tr) (cs : List Value) (S : Nat → Prop) (w : World) (hS : ∀ b, S b → b < w.heap.size) (hT : TreeAt w S t cs) :
    Calls Try.prog 24 #[.agg cs.toArray] w fun e w' => e = .returned (.bool (rightB t)) ∧ Below w.heap.size w w' := by
  obtain ⟨A1, n1, c1, A2, n2, c2, k, neg, nm, ex, rl, tr, al, rfl⟩ := hT.nine
  have hx := Box.new w #[.int .i64 k, .bool neg, .slice A1 n1 c1, .string nm, .int .i64 ex, .int .i64 rl, .bool tr, .bool al, .slice A2 n2 c2] TT
  have HX := Lib.hid hx
  have HT := Lib.hid hT
  have HS := Lib.hid hS
  obtain ⟨R, hR⟩ : ∃ R, R = fewB t 300 := ⟨_, rfl⟩
  have HR := Lib.hid hR
  have HRB := Lib.hid (show rightB t = (R && isF t false) by unfold rightB; rw [hR])
  clear hx hT hR hS
  cases R
  · go_enter Try.func24, Try.ntmps24
    go_wp2_with (first
      | (go_at_call 16; refine (few_any t _ S 300 _ (fun b h => Nat.lt_of_lt_of_le (HS.out b h) HX.out.below.size) (HT.out.below HS.out HX.out.below) (by omega) (by omega)).mono ?_; rintro e w2 ⟨rfl, hb2⟩; rw [← HR.out]))
    go_ret
    exact ⟨by rw [HRB.out]; rfl, HX.out.below.trans (hb2.mono HX.out.below.size)⟩
  · go_enter Try.func24, Try.ntmps24
    go_wp2_with (first
      | (go_at_call 16; refine (few_any t _ S 300 _ (fun b h => Nat.lt_of_lt_of_le (HS.out b h) HX.out.below.size) (HT.out.below HS.out HX.out.below) (by omega) (by omega)).mono ?_; rintro e w2 ⟨rfl, hb2⟩; rw [← HR.out]; (obtain ⟨f0, f1, f2, f3, f4, f5, f6, f7, f8⟩ := (HX.out.step hb2).c9); have HB2 := Lib.hid (HX.out.step hb2); clear hb2)
      | (go_at_call 18; refine (is_any t _ S false _ (fun b h => Nat.lt_of_lt_of_le (HS.out b h) HB2.out.below.size) (HT.out.below HS.out HB2.out.below)).mono ?_; rintro e w4 ⟨rfl, hb4⟩; have HB4 := Lib.hid (HB2.out.step hb4); clear hb4))
    go_ret
    exact ⟨by rw [HRB.out]; rfl, HB4.out.below⟩

/-- a slice of texts that reads as these -/
def StrsAt (w : World) (S : Nat → Prop) (v : Value) (l : List ByteArray) : Prop := SS w S 1 v l.length (l.map Value.string) ∧ l.length ≤ 1000000
theorem StrsAt.keep {w w' : World} {S : Nat → Prop} {v : Value} {l : List ByteArray} (h : StrsAt w S v l) (hk : ∀ p : Addr, S p.block → w'.cell? p = w.cell? p) : StrsAt w' S v l := ⟨h.1.keep hk, h.2⟩
theorem StrsAt.more {w : World} {S S' : Nat → Prop} {v : Value} {l : List ByteArray} (h : StrsAt w S v l) (hS : ∀ b, S b → S' b) : StrsAt w S' v l := ⟨h.1.more hS, h.2⟩
theorem StrsAt.below {w w' : World} {S : Nat → Prop} {B : Nat} {v : Value} {l : List ByteArray} (h : StrsAt w S v l) (hS : ∀ b, S b → b < B) (hb : Below B w w') : StrsAt w' S v l := h.keep (fun _ hp => hb.cell (hS _ hp))
theorem StrsAt.of_own {w : World} {base : Nat} {v : Value} {l : List ByteArray} (h : w.ownsRow base tStr 1 v l.length (l.map Value.string)) (hl : l.length ≤ 1000000) : StrsAt w (fun b => base ≤ b ∧ b < w.heap.size) v l := ⟨SS.of_own h, hl⟩
theorem StrsAt.form {w : World} {S : Nat → Prop} {v : Value} {l : List ByteArray} (h : StrsAt w S v l) : ∃ A c, v = .slice A l.length c := h.1.form
theorem StrsAt.at_ {w : World} {S : Nat → Prop} {A : Option Addr} {n c : Nat} {l : List ByteArray} (h : StrsAt w S (.slice A n c) l) (hn : n = l.length) (h0 : 0 < n) :
    ∃ b o, A = some ⟨b, o, none⟩ ∧ S b ∧ ∀ i x, l[i]? = some x → w.cell? ⟨b, o + i, none⟩ = some (.string x) := by
  subst hn
  obtain ⟨b, o, rfl, hb, hc⟩ := h.1.at_ h0
  exact ⟨b, o, rfl, hb, fun i x hx => hc i _ (by rw [List.getElem?_map, hx]; rfl)⟩
theorem drop_sameB {ks js : List ByteArray} {i : Nat} {a b : ByteArray} (h1 : ks[i]? = some a) (h2 : js[i]? = some b) : (ks.drop i = js.drop i) ↔ (a = b ∧ ks.drop (i + 1) = js.drop (i + 1)) := by
  rw [drop_at h1, drop_at h2]; simp

set_option maxRecDepth 100000 in
set_option maxHeartbeats 2000000 in
theorem texts_any (l m : List ByteArray) (v x : Value) (S : Nat → Prop) (w : World) (hv : StrsAt w S v l) (hx : StrsAt w S x m) (r : Bool) (hr : r = true ↔ l = m) :
    Calls Try.prog 25 #[v, x] w fun e w' => e = .returned (.bool r) ∧ ∃ n, w' = w.drewN n := by
  obtain ⟨A1, c1, rfl⟩ := hv.form
  obtain ⟨A2, c2, rfl⟩ := hx.form
  obtain ⟨n, hn⟩ : ∃ n, n = l.length := ⟨_, rfl⟩
  obtain ⟨n', hn'⟩ : ∃ n, n = m.length := ⟨_, rfl⟩
  rw [← hn] at hv ⊢
  rw [← hn'] at hx ⊢
  have hl1 : n ≤ 1000000 := by rw [hn]; exact hv.2
  have hl2 : n' ≤ 1000000 := by rw [hn']; exact hx.2
  have HV := Lib.hid hv
  have HX := Lib.hid hx
  have HN := Lib.hid hn
  have HN' := Lib.hid hn'
  have HR := Lib.hid hr
  clear hv hx hn hn' hr
  by_cases hlen : n = n'
  case neg =>
    have hd : ((n : Int) != n') = true := by simp; omega
    have HF := Lib.hid (show r = false by
      cases hh : r with
      | false => rfl
      | true => exact absurd (by rw [HN.out, HN'.out, HR.out.1 hh]) hlen)
    clear HR
    go_enter Try.func25, Try.ntmps25
    go_wp2
    go_ret
    exact ⟨by rw [HF.out]; rfl, 0, rfl⟩
  subst hlen
  have hd : ((n : Int) != n) = false := by simp
  go_enter Try.func25, Try.ntmps25
  go_wp2
  go_loopw [13] (fun a_ wr => ∃ (i k : Nat), i ≤ n ∧ a_ = .int .i64 i ∧ wr = w.drewN k ∧ Hid (r = true ↔ l.drop i = m.drop i)) (fun a_ _ => n - (intOf a_).toNat)
  case atStart => exact ⟨0, 0, Nat.zero_le _, rfl, rfl, Lib.hid (by simpa using HR.out)⟩
  case round =>
    obtain ⟨i, k, hi, rfl, rfl, hrel⟩ := hrel
    by_cases hlt : i < n
    · obtain ⟨b, o, rfl, hb, hc⟩ := HV.out.at_ HN.out (by omega)
      obtain ⟨b', o', rfl, hb', hc'⟩ := HX.out.at_ HN'.out (by omega)
      obtain ⟨s, hs⟩ : ∃ s, l[i]? = some s := ⟨_, List.getElem?_eq_getElem (by have := HN.out; omega)⟩
      obtain ⟨s', hs'⟩ : ∃ s, m[i]? = some s := ⟨_, List.getElem?_eq_getElem (by have := HN'.out; omega)⟩
      have g1 := hc i s hs
      have g2 := hc' i s' hs'
      have hstep := hrel.out
      rw [drop_sameB hs hs'] at hstep
      have HST := Lib.hid hstep
      have hi1 : (0 : Int) ≤ i ∧ (i : Int) < n := by omega
      clear hc hc' hs hs' hstep hb hb'
      by_cases hse : s = s'
      · subst hse
        have hb1 : (s.toList == s.toList) = true := by simp
        go_wp2
        go_quiet (fail)
        go_wp2
        go_roundw
        case rel => exact ⟨i + 1, _, by omega, by go_num, rfl, Lib.hid (by have := HST.out; simpa using this)⟩
        case measure => simp [intOf]; omega
      · have hb0 : (s.toList == s'.toList) = false := (Lib.bytes_beq_false_iff s s').2 hse
        have HF := Lib.hid (show r = false by
          cases hh : r with
          | false => rfl
          | true => exact absurd (HST.out.1 hh).1 hse)
        clear hse
        go_wp2
        go_quiet (fail)
        go_wp2
        go_ret
        exact ⟨by rw [HF.out]; rfl, _, World.drewN_drewN _ _ _⟩
    · have HE := Lib.hid (show r = true by rw [hrel.out, List.drop_eq_nil_of_le (by have := HN.out; omega), List.drop_eq_nil_of_le (by have := HN'.out; omega)])
      go_wp2
      go_ret
      exact ⟨by rw [HE.out]; rfl, _, rfl⟩

/-! ### the quantifiers' names -/
def boundN : Fo → List ByteArray
  | .not f => boundN f
  | .and l r => boundN l ++ boundN r
  | .or l r => boundN l ++ boundN r
  | .implies l r => boundN l ++ boundN r
  | .iff l r => boundN l ++ boundN r
  | .quant _ nm f => nm :: boundN f
  | _ => []
theorem boundN_sub (f : Fo) (h : ∀ a n b, f ≠ .quant a n b) : boundN f = (subF f).flatMap boundN := by
  cases f <;> first | (exact absurd rfl (h _ _ _)) | simp [boundN, subF]
/-- no quantified formula -/
def NQ (v : Value) : Prop := v = .nilIface ∨ ∃ u x, v = .iface u x ∧ u ≠ 52
theorem nq_of {w : World} {S : Nat → Prop} {f : Fo} {v : Value} (hT : FoAt w S f v) (ha : ∀ a n b, f ≠ .quant a n b) : NQ v := by
  cases f with
  | odd =>
    rcases hT with rfl | ⟨u, a, rfl, hu⟩
    · exact .inl rfl
    · exact .inr ⟨u, _, rfl, fun e => hu (by rw [e]; decide)⟩
  | truth b => cases hT; exact .inr ⟨_, _, rfl, by decide⟩
  | atom l e r => obtain ⟨vl, vr, rfl, _⟩ := hT; exact .inr ⟨_, _, rfl, by decide⟩
  | quant a n b => exact absurd rfl (ha _ _ _)
  | not f => obtain ⟨vt, rfl, _⟩ := hT; exact .inr ⟨_, _, rfl, by decide⟩
  | and l r => obtain ⟨vl, vr, rfl, _⟩ := hT; exact .inr ⟨_, _, rfl, by decide⟩
  | or l r => obtain ⟨vl, vr, rfl, _⟩ := hT; exact .inr ⟨_, _, rfl, by decide⟩
  | implies l r => obtain ⟨vl, vr, rfl, _⟩ := hT; exact .inr ⟨_, _, rfl, by decide⟩
  | iff l r => obtain ⟨vl, vr, rfl, _⟩ := hT; exact .inr ⟨_, _, rfl, by decide⟩
theorem nq_quant {v : Value} (h : NQ v) (w : World) : (Instr.typeAssert v 43 52 true).run Try.prog w = .ok (.tuple #[.agg #[.bool false, .string ⟨#[]⟩, .nilIface], .bool false]) w := by
  rcases h with rfl | ⟨u, x, rfl, hu⟩
  · exact taQuant_nil w
  · exact taQuant_no u x w hu
/-- a row of names that a call may have made longer -/
def RowPost (B : Nat) (v : Value) (L : List ByteArray) (w : World) (e : Ending) (w' : World) : Prop :=
  ∃ v', e = .returned v' ∧ w'.ownsRow B tStr 1 v' L.length (L.map Value.string) ∧ Owns w w' (fun b => v.ownBlock = some b) (fun b => v'.ownBlock = some b)
def QuOk (f : Fo) : Prop := ∀ (v x : Value) (S : Nat → Prop) (L : List ByteArray) (B : Nat) (w : World), B ≤ w.heap.size → (∀ b, S b → b < B) → FoAt w S f v → w.ownsRow B tStr 1 x L.length (L.map Value.string) → L.length + fsz f ≤ 900000 →
    Calls Try.prog 65 #[v, x] w (RowPost B x (L ++ boundN f) w)

theorem row_slice {w : World} {B n : Nat} {v : Value} {xs : List Value} (h : w.ownsRow B tStr 1 v n xs) : ∃ A c, v = .slice A n c := by
  rcases h.2 with ⟨rfl, h0⟩ | ⟨g, cap, cur, rfl, _⟩
  · have : n = 0 := by have h1 := h.1; rw [h0] at h1; simp at h1; omega
    subst this; exact ⟨_, _, rfl⟩
  · exact ⟨_, _, rfl⟩
theorem boundN_le (f : Fo) : (boundN f).length ≤ fsz f := by
  induction f <;> simp [boundN, fsz] <;> omega
theorem owns_append {W w3 : World} {o : Obj} {v : Value} {g3 : Nat} {x3 : Value} (hx : x3.ownBlock = some g3) (hg : (W.alloc o).grownBy w3 v.ownBlock) (hat : v.ownBlock = some g3 ∨ g3 = (W.alloc o).heap.size) : Owns W w3 (fun b => v.ownBlock = some b) (fun b => x3.ownBlock = some b) := by
  have hz : (W.alloc o).heap.size = W.heap.size + 1 := by simp
  have hs := hg.size
  rw [hz] at hat hs
  refine ⟨hg.os, hg.tape, hg.output, by omega, fun b hb hF => (hg.block b (by omega) (fun e => hF e.symm)).trans (Below.heap_alloc _ _ _ hb), fun b hb => ?_⟩
  rw [hx] at hb
  injection hb with hb
  subst hb
  rcases hat with h | h
  · exact .inl h
  · right; omega
theorem flat_bound_le (l : List Fo) : (l.flatMap boundN).length ≤ fszL l := by
  induction l with
  | nil => simp
  | cons a l ih => rw [List.flatMap_cons, List.length_append]; unfold fszL; have := boundN_le a; omega
/-- the loop's relation -/
def QRel (B : Nat) (x : Value) (L : List ByteArray) (w wr : World) (s_ : Value) : Prop :=
  wr.ownsRow B tStr 1 s_ L.length (L.map Value.string) ∧ Owns w wr (fun b => x.ownBlock = some b) (fun b => s_.ownBlock = some b)
set_option maxRecDepth 100000 in
set_option maxHeartbeats 4000000 in
theorem qu_other (f : Fo) (hq : ∀ a n b, f ≠ .quant a n b) (ih : ∀ k ∈ subF f, QuOk k) : QuOk f := by
  intro v x S L B w hB hS hT hx hL
  have hta := nq_quant (nq_of hT hq)
  obtain ⟨W, hW⟩ : ∃ W, w.alloc (.cells #[.bool false, .string ⟨#[]⟩, .nilIface] 52) = W := ⟨_, rfl⟩
  have hbW : Below w.heap.size w W := by rw [← hW]; exact (Below.refl _ w).alloc (Nat.le_refl _) _
  have hS' : ∀ b, S b → b < w.heap.size := fun b hb => Nat.lt_of_lt_of_le (hS b hb) hB
  have hTW : FoAt W S f v := hT.below hS' hbW
  obtain ⟨vs, hvs, hsub⟩ := parts_any f v S W hTW
  obtain ⟨n, hn⟩ : ∃ n, n = vs.length := ⟨_, rfl⟩
  have hn64 : n ≤ 2 := by rw [hn, hvs.1]; cases f <;> simp [subF]
  have hfs := fszL_sub f
  have HBN := Lib.hid (boundN_sub f hq)
  have IH := Lib.hid ih
  have HVS := Lib.hid hvs
  have HSUB := Lib.hid hsub
  have HN := Lib.hid hn
  have HS := Lib.hid hS
  have HBW := Lib.hid hbW
  have HW := Lib.hid hW
  have HX := Lib.hid hx
  have HO0 := Lib.hid (Owns.of_below hbW (fun b => x.ownBlock = some b))
  clear hW ih hvs hsub hn hT hTW hS hS' hbW hx hq
  go_enter Try.func65, Try.ntmps65
  go_wp2_with (first
    | (go_at_call 67; rw [HW.out]; refine HSUB.out.mono ?_; intro e w1 hp; obtain ⟨A, c, he, hss, hb1⟩ := hp; rw [← HN.out] at he hss; subst he; have HSS := Lib.hid hss; have HB1 := Lib.hid hb1; clear hss hb1 hta))
  go_loopw [1, 23] (fun s_ a_ wr => ∃ (i : Nat), i ≤ n ∧ a_ = .int .i64 i ∧ QRel B x (L ++ ((subF f).take i).flatMap boundN) w1 wr s_) (fun _ a_ _ => n - (intOf a_).toNat)
  case atStart => exact ⟨0, Nat.zero_le _, rfl, by simpa using ownsRow_keep HX.out (fun b hb => (HB1.out.block b (Nat.lt_of_lt_of_le (HX.out.lt b hb).2 HBW.out.size)).trans (HBW.out.block b (HX.out.lt b hb).2)), Owns.refl _ _⟩
  case round =>
    obtain ⟨i, hi, rfl, hown, ho⟩ := hrel
    by_cases hlt : i < n
    · have hF : ∀ b, x.ownBlock = some b → b < W.heap.size := fun b hb => Nat.lt_of_lt_of_le (HX.out.lt b hb).2 HBW.out.size
      obtain ⟨kd, y, b, o, hkd, hTk, rfl, hcell⟩ := subF_at HSS.out HVS.out hF ho i hlt HN.out
      have hoW := (Owns.of_below HB1.out (fun b => x.ownBlock = some b)).trans ho
      have hS2 : ∀ b, S b → b < W.heap.size ∧ ¬ x.ownBlock = some b := fun b hb => ⟨by have := HS.out b hb; have := HBW.out.size; omega, fun h => by have h1 := (HX.out.lt b h).1; have h2 := HS.out b hb; omega⟩
      have hBr : B ≤ wr.heap.size := by have := HBW.out.size; have := hoW.size; omega
      have h1 := flat_bound_le ((subF f).take i)
      have h2 := fszL_take (subF f) (i + 1)
      have h3 := fszL_succ (subF f) i kd hkd
      have hC := IH.out kd (mem_at hkd) y u1 S _ B wr hBr HS.out (hTk.owns hoW hS2) hown (by rw [List.length_append]; omega)
      have HC := Lib.hid hC
      have HFL := Lib.hid (show L ++ ((subF f).take (i + 1)).flatMap boundN = (L ++ ((subF f).take i).flatMap boundN) ++ boundN kd by rw [flat_take boundN hkd, List.append_assoc])
      have HO := Lib.hid ho
      clear hC hkd hTk hoW hS2 hF h1 h2 h3 ho hown hBr
      go_wp2_with (first | (go_at_call 65; refine HC.out.mono ?_; intro e w2 hp; obtain ⟨v', rfl, hv', ho'⟩ := hp; have HV := Lib.hid hv'; have HO' := Lib.hid ho'; clear hv' ho'))
      go_roundw
      case rel =>
        exact ⟨i + 1, by omega, by go_num, by rw [HFL.out]; exact HV.out, HO.out.trans HO'.out⟩
      case measure => simp [intOf]; omega
    · have HOW := Lib.hid hown
      have HO := Lib.hid ho
      have HI := Lib.hid (show (subF f).take i = subF f from List.take_of_length_le (by rw [← HVS.out.1, ← HN.out]; omega))
      clear hown ho
      go_wp2
      go_ret
      have hown := HOW.out
      rw [HI.out, ← HBN.out] at hown
      exact ⟨u1, rfl, hown, ((Owns.of_below HBW.out _).trans (Owns.of_below HB1.out _)).trans HO.out⟩

set_option maxRecDepth 100000 in
set_option maxHeartbeats 4000000 in
theorem qu_quant (all : Bool) (nm : ByteArray) (f : Fo) (ih : QuOk f) : QuOk (.quant all nm f) := by
  intro v x S L B w hB hS hT hx hL
  obtain ⟨vf, rfl, hnm, hf⟩ := hT
  show Calls Try.prog 65 #[.iface 52 (.agg #[.bool all, .string nm, vf]), x] w _
  obtain ⟨A0, c0, rfl⟩ := row_slice hx
  obtain ⟨W, hW⟩ : ∃ W, w.alloc (.cells #[.bool all, .string nm, vf] 52) = W := ⟨_, rfl⟩
  have hy : Box w W w.heap.size #[.bool all, .string nm, vf] 52 := by rw [← hW]; exact Box.new w _ _
  have s1 : W.cell? ⟨w.heap.size, 1, none⟩ = some (.string nm) := hy.cell 1
  have hc0 := hf.one
  have hS' : ∀ b, S b → b < w.heap.size := fun b hb => Nat.lt_of_lt_of_le (hS b hb) hB
  have hW1 : w.heap.size < W.heap.size := hy.lt
  have HT := Lib.hid (hf.below hS' hy.below)
  have HX := Lib.hid (ownsRow_keep hx (fun b hb => hy.below.block b (hx.lt b hb).2))
  have HX0 := Lib.hid hx
  have HY := Lib.hid hy
  have HS := Lib.hid hS
  have IH := Lib.hid ih
  have hl1 : L.length + fsz f + 1 ≤ 900000 := by unfold fsz at hL; omega
  obtain ⟨i0, hi0, hz0, hz1, hz2⟩ := info_parts infoStr
  clear hx hy hS hS' hf ih hL
  go_enter Try.func65, Try.ntmps65
  go_wp2_with (first
    | (at_builtin; refine wpList_append_lies _ rfl (.tmp 15) (.tmp 18) 48 rfl B tStr i0 _ 1 16 Try.underlying48 hi0 hz0 hz1 hz2 rfl (by decide) (.slice A0 L.length c0) L.length (L.map Value.string) rfl (HX.out.alloc _) ⟨W.heap.size, 0, none⟩ 1 1 [.string nm] rfl rfl (cell_one_new _ _ _) (by intro u hu; simp at hu; rw [hu]; rfl) (by omega) (by unfold maxLen; omega) (by omega) (by simp; omega) _ rfl ?_; intro g3 cap3 w3 ho3 hgrow3 hat3 hlt3; have HO3 := Lib.hid ho3; have HG3 := Lib.hid hgrow3; have HAT := Lib.hid hat3; clear ho3 hgrow3 hat3 hW)
    | (go_at_call 67; refine (parts_Quant all nm vf _ hc0).mono ?_; intro e w4 hp; obtain ⟨A, n4, rfl, hss, hb4⟩ := hp; have HSS := Lib.hid hss; have HB4 := Lib.hid hb4; clear hss hb4))
  obtain ⟨b, o, rfl, hb, hcell⟩ := HSS.out.at_ (by simp)
  have hc3 : w4.cell? ⟨b, o, none⟩ = some vf := hcell 0 vf rfl
  have ho3 : Owns W w3 (fun b => (Value.slice A0 L.length c0).ownBlock = some b) (fun b => (Value.slice (some ⟨g3, 0, none⟩) (L.length + 1) cap3).ownBlock = some b) := owns_append rfl HG3.out HAT.out
  have ho4 := ho3.trans (Owns.of_below HB4.out _)
  have hS2 : ∀ b, S b → b < W.heap.size ∧ ¬ (Value.slice A0 L.length c0).ownBlock = some b := fun b hb => ⟨by have := HS.out b hb; omega, fun h => by have h1 := (HX0.out.lt b h).1; have h2 := HS.out b hb; omega⟩
  have hlen : (L ++ [nm]).length = L.length + 1 := by simp
  have hmp : (L ++ [nm]).map Value.string = L.map Value.string ++ [Value.string nm] := by simp
  have hC := IH.out vf (.slice (some ⟨g3, 0, none⟩) (L.length + 1) cap3) S (L ++ [nm]) B w4 (by have := ho4.size; omega) HS.out (HT.out.owns ho4 hS2) (by rw [hlen, hmp]; exact ownsRow_keep HO3.out (fun b hb => HB4.out.block b (HO3.out.lt b hb).2)) (by rw [hlen]; omega)
  have HC := Lib.hid hC
  have HO4 := Lib.hid ho4
  have HFL := Lib.hid (show (L ++ [nm]) ++ boundN f = L ++ boundN (.quant all nm f) by simp [boundN])
  clear hC ho4 ho3 hS2 hlen hmp hcell hb
  refine wp_loop_rounds 2 ?_
  rw [rounds_succ]
  go_wp2_with (first | (go_at_call 65; refine HC.out.mono ?_; intro e w5 hp; obtain ⟨v', rfl, hv', ho'⟩ := hp; have HV := Lib.hid hv'; have HO' := Lib.hid ho'; clear hv' ho'))
  rw [rounds_succ]
  go_wp2
  go_ret
  have hv := HV.out
  rw [HFL.out] at hv
  exact ⟨v', rfl, hv, ((Owns.of_below HY.out.below _).trans HO4.out).trans HO'.out⟩
theorem qu_any : ∀ f, QuOk f := by
  refine Fo.ind fun f ih => ?_
  by_cases hq : ∃ a n b, f = .quant a n b
  · obtain ⟨a, n, b, rfl⟩ := hq; exact qu_quant a n b (ih b (by simp [subF]))
  · exact qu_other f (fun a n b h => hq ⟨a, n, b, h⟩) ih

set_option maxRecDepth 100000 in
theorem bound_any (f : Fo) (v : Value) (S : Nat → Prop) (w : World) (hS : ∀ b, S b → b < w.heap.size) (hT : FoAt w S f v) (hf : fsz f ≤ 900000) :
    Calls Try.prog 28 #[v] w fun e w' => ∃ v', e = .returned v' ∧ w'.ownsRow w.heap.size tStr 1 v' (boundN f).length ((boundN f).map Value.string) ∧ Below w.heap.size w w' := by
  have HC := Lib.hid (qu_any f v (.slice none 0 0) S [] w.heap.size w (Nat.le_refl _) hS hT ⟨rfl, .inl ⟨rfl, rfl⟩⟩ (by simp; omega))
  clear hT
  go_enter Try.func28, Try.ntmps28
  go_wp2_with (go_at_call 65; refine HC.out.mono ?_; intro e w1 hp; obtain ⟨v', rfl, hv', ho'⟩ := hp; have HV := Lib.hid hv'; have HO' := Lib.hid ho'; clear hv' ho')
  go_ret
  exact ⟨v', rfl, HV.out, HO'.out.below (Nat.le_refl _) (fun b hb => by cases hb)⟩
end Fm
end Go.Proofs.Ytjbgdaojhdobkaa
