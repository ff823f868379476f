/-
  Integers: natural.trim, natural.Normal, integer.signed, From, Normal; the reference's Int and SameInt.
-/
import Derived.Test.YtkjbfomokdjbnaaDoorMem
import Derived.Test.YtkjbfomokdjbnaaDoorChecked
import Derived.Laws.CopyOwn
import Derived.OwnWalk
import Derived.BigQuiet
import Derived.Deep.RegionHeld3
import Derived.Deep.RegionLaw
namespace Go.Proofs.YtkjbfomokdjbnaaDoor
open Go.RowKit
set_option linter.unusedSimpArgs false
set_option linter.unusedVariables false
namespace Fm

def trimLen (l : List Nat) : Nat → Nat
  | 0 => 0
  | n + 1 => if l.getD n 1 = 0 then trimLen l n else n + 1
def trimN (l : List Nat) : List Nat := l.take (trimLen l l.length)
theorem trimLen_le (l : List Nat) : ∀ n, trimLen l n ≤ n
  | 0 => Nat.le_refl _
  | n + 1 => by unfold trimLen; split; exact Nat.le_succ_of_le (trimLen_le l n); exact Nat.le_refl _
theorem trimN_len (l : List Nat) : (trimN l).length = trimLen l l.length := by
  unfold trimN; rw [List.length_take]; exact Nat.min_eq_left (trimLen_le l _)

theorem AbsAt.form {w : World} {S : Nat → Prop} {v : Value} {l : List Nat} (h : AbsAt w S v l) : ∃ A c, v = .slice A l.length c := h.1.form
theorem AbsAt.at_ {w : World} {S : Nat → Prop} {A : Option Addr} {n c : Nat} {l : List Nat} (h : AbsAt w S (.slice A n c) l) (hn : n = l.length) (h0 : 0 < n) :
    ∃ b o, A = some ⟨b, o, none⟩ ∧ S b ∧ ∀ i, i < n → w.cell? ⟨b, o + i, none⟩ = some (.int .u32 ((l.getD i 0 : Nat) : Int)) := by
  subst hn
  obtain ⟨b, o, rfl, hb, hc⟩ := h.1.at_ h0
  refine ⟨b, o, rfl, hb, fun i hi => hc i _ ?_⟩
  simp [u32V, List.getD, hi]
theorem AbsAt.cap {w : World} {S : Nat → Prop} {A : Option Addr} {n c : Nat} {l : List Nat} (h : AbsAt w S (.slice A n c) l) : n = l.length ∧ l.length ≤ c := by
  obtain ⟨A', c', e, hc, _⟩ := h.1
  injection e with _ e2 e3
  exact ⟨e2, by omega⟩
theorem AbsAt.take {w : World} {S : Nat → Prop} {n m c : Nat} {A : Option Addr} {l : List Nat} (h : AbsAt w S (.slice A n c) l) (hm : m ≤ l.length) : AbsAt w S (.slice A m c) (l.take m) := by
  obtain ⟨e1, _⟩ := h.cap
  subst e1
  obtain ⟨h1, h2, h3⟩ := h
  have := h1.take hm
  have hl : (l.take m).length = m := by rw [List.length_take]; exact Nat.min_eq_left hm
  refine ⟨?_, fun x hx => h2 x (List.mem_of_mem_take hx), by omega⟩
  rw [hl]
  simpa using this

set_option maxHeartbeats 1000000 in
theorem trim_any (l : List Nat) (v : Value) (S : Nat → Prop) (w : World) (h : AbsAt w S v l) :
    Calls Tryd.prog 80 #[v] w fun e w' => (∃ A c, e = .returned (.slice A (trimN l).length c) ∧ AbsAt w S (.slice A (trimN l).length c) (trimN l)) ∧ w' = w := by
  obtain ⟨A, c, rfl⟩ := h.form
  obtain ⟨n, hn⟩ : ∃ n, n = l.length := ⟨_, rfl⟩
  rw [← hn] at h
  have hc := h.cap.2
  have hn64 := h.2.2
  rw [← hn] at hc hn64
  have HC := Lib.hid (h.at_ hn)
  have HN := Lib.hid hn
  have HH := Lib.hid h
  rw [← hn]
  clear hn h
  go_enter Tryd.func80, Tryd.ntmps80
  go_wp2
  go_loop [3] (fun a => ∃ k : Nat, k ≤ n ∧ a = .int .i64 k ∧ Hid (trimLen l k = trimLen l l.length)) (fun a => (intOf a).toNat)
  case atStart => exact ⟨n, Nat.le_refl _, rfl, Lib.hid (by rw [HN.out])⟩
  case round =>
    obtain ⟨k, hk, rfl, hrel⟩ := hrel
    have fin : ∀ m, m ≤ n → trimLen l m = trimLen l l.length → (m = 0 ∨ l.getD (m - 1) 1 ≠ 0) → m = (trimN l).length ∧ AbsAt w S (.slice A m c) (trimN l) := by
      intro m hm h1 h2
      have e : trimLen l m = m := by
        rcases h2 with rfl | h2
        · rfl
        · cases m with
          | zero => rfl
          | succ m => unfold trimLen; rw [if_neg (by simpa using h2)]
      have e2 : trimLen l l.length = m := by rw [← h1, e]
      refine ⟨by rw [trimN_len, e2], ?_⟩
      unfold trimN
      rw [e2]
      exact HH.out.take (by rw [← HN.out]; exact hm)
    have Fin := Lib.hid fin
    clear fin
    by_cases h0 : k = 0
    · subst h0
      have HF := Lib.hid (Fin.out 0 (Nat.zero_le _) hrel.out (.inl rfl))
      go_wp2
      go_ret
      exact ⟨⟨A, c, by rw [← HF.out.1]; rfl, by rw [← HF.out.1]; exact HF.out.2⟩, rfl⟩
    · obtain ⟨b, o, rfl, hb, hcell⟩ := HC.out (by omega)
      have hc1 := hcell (k - 1) (by omega)
      obtain ⟨x, hx⟩ : ∃ x, x = l.getD (k - 1) 0 := ⟨_, rfl⟩
      rw [← hx] at hc1
      have hx1 : l.getD (k - 1) 1 = x := by
        have hkl : k - 1 < l.length := by rw [← HN.out]; omega
        rw [hx]; simp [List.getD, hkl]
      have HX := Lib.hid hx1
      have hkc : ((k : Int) - 1).toNat = k - 1 := by omega
      clear hcell hx hx1
      by_cases hz : x = 0
      · have hz' : ((x : Int) == 0) = true := by simp; omega
        have HS := Lib.hid (show trimLen l (k - 1) = trimLen l l.length by
          rw [← hrel.out]
          obtain ⟨m, rfl⟩ : ∃ m, k = m + 1 := ⟨k - 1, by omega⟩
          have := HX.out
          simp only [Nat.add_sub_cancel] at this ⊢
          conv => rhs; unfold trimLen
          rw [if_pos (by rw [this]; exact hz)])
        clear hz
        go_wp2
        go_round
        case rel => exact ⟨k - 1, by omega, by congr 1; omega, HS⟩
        case measure => simp [intOf]; omega
      · have hz' : ((x : Int) == 0) = false := by simp; omega
        have HF := Lib.hid (Fin.out k hk hrel.out (.inr (by rw [HX.out]; exact hz)))
        have h1 : (k : Int) ≤ c := by omega
        clear hz
        go_wp2
        go_ret
        exact ⟨⟨_, c, by rw [← HF.out.1]; rfl, by rw [← HF.out.1]; exact HF.out.2⟩, rfl⟩

theorem infoU32 : (Tryd.prog.info? 128).map (fun i => (i.zero, i.size, i.bytes)) = some (some (.int .u32 0), 1, 4) := by kernel_rfl
theorem sizeU32 : (Tryd.prog.info? 128).map (·.size) = some 1 := by kernel_rfl

def NatPost (l : List Nat) (w : World) (e : Ending) (w' : World) : Prop := ∃ v, e = .returned v ∧ AbsAt w' (Fr w w') v l ∧ Below w.heap.size w w'

theorem AbsAt.of_row {w : World} {g n : Nat} {l : List Nat} (hg : w.heap[g]? = some (.cells (l.map u32V).toArray 128 (0, 0))) (hn : n = l.length) (h2 : ∀ x ∈ l, x < 4294967296) (h3 : l.length ≤ 9223372036854775807) (S : Nat → Prop) (hB : S g) : AbsAt w S (.slice (some ⟨g, 0, none⟩) n n) l := by
  subst hn
  refine ⟨⟨_, _, rfl, Nat.le_refl _, by simp, fun h0 => ⟨g, 0, rfl, hB, fun j u hj => ?_⟩⟩, h2, h3⟩
  rw [Nat.zero_add]
  simp only [World.cell?, hg]
  simpa using hj

theorem made_row {w w2 : World} {m : Nat} {e : TypeId} {xs : List Value} (hown2 : w2.ownsRow w.heap.size e 1 (.slice (some ⟨w.heap.size, 0, none⟩) m m) m xs) (hg2 : w.grownBy w2 none) :
    ∃ cur : List Value, Hid (cur.length = m) ∧ Hid (w2.heap[w.heap.size]? = some (.cells cur.toArray e (0, 0))) ∧ Below w.heap.size w w2 := by
  have hb2 : Below w.heap.size w w2 := (Below.refl _ w).grown hg2 (Nat.le_refl _) (fun k h => by cases h)
  rcases hown2.2 with ⟨e, _⟩ | ⟨g, cap, cur, e, _, hg, _, _, hcs, _⟩
  · cases e
  · injection e with e1 e2 e3
    injection e1 with e1
    injection e1 with e1
    subst e1
    exact ⟨cur.toList, Lib.hid (by simp [hcs, ← e3]), Lib.hid hg, hb2⟩
theorem abs_src {w w2 : World} {S : Nat → Prop} {A : Option Addr} {m c : Nat} {l : List Nat} (h : AbsAt w S (.slice A m c) l) (hm : m = l.length) (hS : ∀ b, S b → b < w.heap.size) (hb : Below w.heap.size w w2) (h0 : 0 < m) :
    ∃ ad, A = some ad ∧ ∀ j v, (l.map u32V)[j]? = some v → w2.cell? (ad.add j) = some v := by
  subst hm
  obtain ⟨b, o, rfl, hbB, hc⟩ := h.1.at_ h0
  refine ⟨_, rfl, fun j v hj => ?_⟩
  have := hc j v hj
  rw [← hb.cell (p := ⟨b, o + j, none⟩) (hS _ hbB)] at this
  rw [← this]
  unfold Addr.add; split
  · rename_i h5; simp [h5]
  · rfl

set_option maxRecDepth 100000 in
set_option maxHeartbeats 1000000 in
theorem natNormal_any (l : List Nat) (v : Value) (S : Nat → Prop) (w : World) (hS : ∀ b, S b → b < w.heap.size) (h : AbsAt w S v l) (hl : l.length ≤ 1000000) :
    Calls Tryd.prog 73 #[v] w (NatPost (trimN l) w) := by
  obtain ⟨i0, hi0, hz0, hz1, hz2⟩ := info_parts infoU32
  obtain ⟨m, hm⟩ : ∃ m, m = (trimN l).length := ⟨_, rfl⟩
  have hT := trim_any l v S w h
  have hm2 : m ≤ 1000000 := by rw [hm, trimN_len]; exact Nat.le_trans (trimLen_le _ _) hl
  rw [← hm] at hT
  have HM := Lib.hid hm
  have HT := Lib.hid hT
  clear hm hT h
  go_enter Tryd.func73, Tryd.ntmps73
  go_wp2_with (first
    | (go_at_call 80; refine HT.out.mono ?_; rintro e w' ⟨⟨A, c, rfl, hA⟩, rfl⟩; have HA := Lib.hid hA; clear hA)
    | (at_make; refine wpList_make_full _ rfl (.tmp 7) (.tmp 7) 23 rfl w'.heap.size 128 i0 (.int .u32 0) 1 Tryd.underlying23 hi0 hz0 hz1 .i64 .i64 _ _ m rfl rfl (by rfl) (by rfl) ?c1 ?c2 ?c3 ?_; rotate_right; intro w2 hown2 hg2; obtain ⟨cur, HCL, HCU, hb2⟩ := made_row hown2 hg2; clear hown2 hg2)
    | (refine wpList_copy_splice rfl (.tmp 9) (.tmp 10) 23 23 rfl 128 Tryd.underlying23 sizeU32 _ _ m m m c rfl rfl w'.heap.size 0 cur _ HCU.out ((trimN l).map u32V) ?d1 ?d2 ?d3 ?d4 w'.heap.size w' hb2 (Nat.le_refl _) ?_; rotate_right; intro w3 hg3 hb3))
  case c1 => rw [hz2]; omega
  case c2 => unfold maxLen; omega
  case c3 => exact Nat.le_refl _
  case d1 => rw [List.length_map, ← HM.out]; exact (Nat.min_self _).symm
  case d2 => intro h0; have hq := abs_src HA.out HM.out hS hb2 (by rw [HM.out]; simpa using h0); first | exact ⟨rfl, hq⟩ | (simpa using hq)
  case d3 => rw [List.length_map, ← HM.out, HCL.out]; omega
  case d4 =>
    intro u hu
    obtain ⟨x, _, rfl⟩ := List.mem_map.1 hu
    rfl
  go_ret
  refine ⟨_, rfl, ?_, hb3⟩
  have e : splice cur 0 ((trimN l).map u32V) = (trimN l).map u32V := by
    unfold splice
    rw [List.take_zero, List.nil_append, List.drop_eq_nil_of_le (by rw [List.length_map, ← HM.out, HCL.out]; omega), List.append_nil]
  have hg3' := hg3.out
  rw [e] at hg3'
  exact AbsAt.of_row hg3' HM.out (fun x hx => HA.out.2.1 x hx) HA.out.2.2 _ ⟨Nat.le_refl _, (Array.getElem?_eq_some_iff.1 hg3').1⟩

/-! ### signed, From, Normal -/
def normB (neg : Bool) (l : List Nat) : Bool := neg && decide (0 < (trimN l).length)

set_option maxHeartbeats 1000000 in
theorem signed_any (neg r : Bool) (A : Option Addr) (n c : Nat) (hr : r = (neg && decide (0 < n))) (w : World) :
    Calls Tryd.prog 72 #[.bool neg, .slice A n c] w fun e w' => e = .returned (.agg #[.bool r, .slice A n c]) ∧ Below w.heap.size w w' := by
  have HR := Lib.hid hr
  clear hr
  cases neg
  · have e : r = false := by rw [HR.out]; rfl
    subst e
    go_enter Tryd.func72, Tryd.ntmps72
    go_wp2
    exact bodyPost_ret (v := .agg #[.bool false, .slice A n c]) (by simp [results, Tryd.results72, go_sem]) rfl ⟨rfl, (Below.refl _ _).alloc (Nat.le_refl _) _⟩
  · by_cases h : 0 < n
    · have e : r = true := by rw [HR.out]; simpa using h
      subst e
      go_enter Tryd.func72, Tryd.ntmps72
      go_wp2
      exact bodyPost_ret (v := .agg #[.bool true, .slice A n c]) (by simp [results, Tryd.results72, go_sem]) rfl ⟨rfl, (Below.refl _ _).alloc (Nat.le_refl _) _⟩
    · have e : r = false := by rw [HR.out]; simpa using h
      subst e
      obtain rfl : n = 0 := by omega
      go_enter Tryd.func72, Tryd.ntmps72
      go_wp2
      exact bodyPost_ret (v := .agg #[.bool false, .slice A 0 c]) (by simp [results, Tryd.results72, go_sem]) rfl ⟨rfl, (Below.refl _ _).alloc (Nat.le_refl _) _⟩

def NormPost (neg : Bool) (l : List Nat) (w : World) (e : Ending) (w' : World) : Prop :=
  ∃ v, e = .returned (.agg #[.bool (normB neg l), v]) ∧ AbsAt w' (Fr w w') v (trimN l) ∧ Below w.heap.size w w'
theorem NatPost.named {l : List Nat} {w w' : World} {e : Ending} (h : NatPost l w e w') (m : Nat) (hm : m = l.length) : ∃ A c, e = .returned (.slice A m c) ∧ AbsAt w' (Fr w w') (.slice A m c) l ∧ Below w.heap.size w w' := by
  obtain ⟨v, he, ha, hb⟩ := h
  obtain ⟨A, c, rfl⟩ := ha.form
  subst hm
  exact ⟨A, c, he, ha, hb⟩

set_option maxHeartbeats 1000000 in
theorem from_any (neg : Bool) (l : List Nat) (v : Value) (S : Nat → Prop) (w : World) (hS : ∀ b, S b → b < w.heap.size) (h : AbsAt w S v l) (hl : l.length ≤ 1000000) :
    Calls Tryd.prog 60 #[.bool neg, v] w (NormPost neg l w) := by
  obtain ⟨m, hm⟩ : ∃ m, m = (trimN l).length := ⟨_, rfl⟩
  obtain ⟨r, hr⟩ : ∃ r, r = (neg && decide (0 < m)) := ⟨_, rfl⟩
  have hx0 := Box.new w #[.bool false, .slice none 0 0] 25
  have hs0 : (w.alloc (.cells #[.bool false, .slice none 0 0] 25)).heap.size = w.heap.size + 1 := by simp
  have HN := Lib.hid (natNormal_any l v S (w.alloc (.cells #[.bool false, .slice none 0 0] 25)) (fun b hb => by rw [hs0]; have := hS b hb; omega) (h.below hS hx0.below) hl)
  have HM := Lib.hid hm
  have HR := Lib.hid hr
  have HX0 := Lib.hid hx0
  have HS0 := Lib.hid hs0
  clear hm hr h hx0 hs0 hS
  go_enter Tryd.func60, Tryd.ntmps60
  go_wp2_with (first
    | (go_at_call 73; refine HN.out.mono ?_; intro e w2 h; obtain ⟨A, c, rfl, hA, hb2⟩ := h.named m HM.out; clear h; have HA := Lib.hid hA; clear hA)
    | (go_at_call 72; refine (signed_any neg r A m c HR.out _).mono ?_; rintro e w3 ⟨rfl, hb3⟩; have hx3 := (HX0.out.step hb2).step hb3; obtain ⟨y0, y1⟩ := hx3.c2; have yf := hx3.fz))
  refine bodyPost_ret (v := .agg #[.bool r, .slice A m c]) (by simp [results, Tryd.results60, go_sem, y0, y1, yf]) rfl ?_
  have hz := HS0.out
  have hA3 := HA.out.below (fun b hb => hb.2) hb3
  have hb3s := hb3.size
  have hb2s := hb2.size
  have e : normB neg l = r := by rw [HR.out, HM.out]; rfl
  refine ⟨.slice A m c, by rw [e], ?_, (hx3.below.setCell (p := ⟨_, _, none⟩) (Nat.le_refl _) _).setCell (p := ⟨_, _, none⟩) (Nat.le_refl _) _⟩
  exact ((hA3.setCell _ (by omega)).setCell _ (by omega)).more (fun b hb => ⟨by omega, by simp; omega⟩)

theorem NormPost.named {neg : Bool} {l : List Nat} {w w' : World} {e : Ending} (h : NormPost neg l w e w') (r : Bool) (hr : r = normB neg l) : ∃ A n c, e = .returned (.agg #[.bool r, .slice A n c]) ∧ AbsAt w' (Fr w w') (.slice A n c) (trimN l) ∧ Below w.heap.size w w' := by
  subst hr
  obtain ⟨v, he, ha, hb⟩ := h
  obtain ⟨A, c, rfl⟩ := ha.form
  exact ⟨A, _, c, he, ha, hb⟩

set_option maxHeartbeats 1000000 in
theorem normal_any (neg : Bool) (l : List Nat) (v : Value) (S : Nat → Prop) (w : World) (hS : ∀ b, S b → b < w.heap.size) (h : AbsAt w S v l) (hl : l.length ≤ 1000000) :
    Calls Tryd.prog 32 #[.agg #[.bool neg, v]] w (NormPost neg l w) := by
  have hx0 := Box.new w #[.bool neg, v] 25
  have hx1 := Box.new (w.alloc (.cells #[.bool neg, v] 25)) #[.bool false, .slice none 0 0] 25
  have hs0 : (w.alloc (.cells #[.bool neg, v] 25)).heap.size = w.heap.size + 1 := by simp
  have hs1 : ((w.alloc (.cells #[.bool neg, v] 25)).alloc (.cells #[.bool false, .slice none 0 0] 25)).heap.size = w.heap.size + 2 := by simp
  rw [hs0] at hx1
  have hbel : Below w.heap.size w ((w.alloc (.cells #[.bool neg, v] 25)).alloc (.cells #[.bool false, .slice none 0 0] 25)) := hx0.below.trans (hx1.below.mono (by omega))
  have HN := Lib.hid (from_any neg l v S ((w.alloc (.cells #[.bool neg, v] 25)).alloc (.cells #[.bool false, .slice none 0 0] 25)) (fun b hb => by rw [hs1]; have := hS b hb; omega) (h.below hS hbel) hl)
  obtain ⟨r, hr⟩ : ∃ r, r = normB neg l := ⟨_, rfl⟩
  have HR := Lib.hid hr
  have HX1 := Lib.hid hx1
  have HX0 := Lib.hid hx0
  have HS1 := Lib.hid hs1
  have HS0 := Lib.hid hs0
  clear hr h hx0 hx1 hs0 hs1 hS hbel
  go_enter Tryd.func32, Tryd.ntmps32
  go_wp2_with (first
    | (go_at_call 60; refine HN.out.mono ?_; intro e w2 h; obtain ⟨A, n, c, rfl, hA, hb2⟩ := h.named r HR.out; clear h; have HA := Lib.hid hA; clear hA; have hx2 := HX1.out.step hb2; obtain ⟨y0, y1⟩ := hx2.c2; have yf := hx2.fz))
  refine bodyPost_ret (v := .agg #[.bool r, .slice A n c]) (by simp [results, Tryd.results32, go_sem, y0, y1, yf]) rfl ?_
  have hz := HS0.out
  have hz1 := HS1.out
  have hb2s := hb2.size
  refine ⟨_, by rw [← HR.out], ?_, ((HX0.out.below.trans (hx2.below.mono (by omega))).setCell (p := ⟨_, _, none⟩) (Nat.le_succ _) _).setCell (p := ⟨_, _, none⟩) (Nat.le_succ _) _⟩
  exact ((HA.out.setCell _ (by omega)).setCell _ (by omega)).more (fun b hb => ⟨by omega, by simp; omega⟩)
end Fm
end Go.Proofs.YtkjbfomokdjbnaaDoor

/-
  The reference's integers: Int, SameInt.
-/
namespace Go.Proofs.YtkjbfomokdjbnaaDoor
open Go.RowKit
set_option linter.unusedSimpArgs false
set_option linter.unusedVariables false
namespace Fm

theorem _root_.Go.RowKit.Below.drewN {B : Nat} {a w : World} (h : Below B a w) (n : Nat) : Below B a (w.drewN n) := ⟨h.os, h.tape, h.output, h.size, h.block⟩

theorem trim_stop {l : List Nat} {m : Nat} (hm : m ≤ l.length) (h1 : trimLen l m = trimLen l l.length) (h2 : m = 0 ∨ l.getD (m - 1) 1 ≠ 0) : m = trimLen l l.length := by
  have e : trimLen l m = m := by
    rcases h2 with rfl | h2
    · rfl
    · cases m with
      | zero => rfl
      | succ m => unfold trimLen; rw [if_neg (by simpa using h2)]
  rw [← h1, e]
theorem trim_step {l : List Nat} {m : Nat} (hm : m + 1 ≤ l.length) (h1 : trimLen l (m + 1) = trimLen l l.length) (h2 : l.getD m 1 = 0) : trimLen l m = trimLen l l.length := by
  rw [← h1]
  conv => rhs; unfold trimLen
  rw [if_pos h2]

set_option maxRecDepth 100000 in
set_option maxHeartbeats 4000000 in
theorem rint_any (neg : Bool) (l : List Nat) (v : Value) (S : Nat → Prop) (w : World) (hS : ∀ b, S b → b < w.heap.size) (h : AbsAt w S v l) (hl : l.length ≤ 1000000) :
    Calls Tryd.prog 66 #[.agg #[.bool neg, v]] w (NormPost neg l w) := by
  obtain ⟨A, c, rfl⟩ := h.form
  obtain ⟨n, hn⟩ : ∃ n, n = l.length := ⟨_, rfl⟩
  rw [← hn] at h hl ⊢
  have hc : n ≤ c := by have := h.cap.2; omega
  obtain ⟨i0, hi0, hz0, hz1, hz2⟩ := info_parts infoU32
  obtain ⟨W, hW⟩ : ∃ W, (w.alloc (.cells #[.bool neg, .slice A n c] 25)).alloc (.cells #[.bool false, .slice none 0 0] 25) = W := ⟨_, rfl⟩
  have hx0 : Box w W w.heap.size #[.bool neg, .slice A n c] 25 := by rw [← hW]; exact (Box.new w _ _).alloc _
  have hx1 : Box w W (w.heap.size + 1) #[.bool false, .slice none 0 0] 25 := by
    rw [← hW]
    refine ⟨((Below.refl _ w).alloc (Nat.le_refl _) _).alloc (by simp) _, ?_⟩
    have := heap_alloc_new (w.alloc (.cells #[.bool neg, .slice A n c] 25)) (.cells #[.bool false, .slice none 0 0] 25)
    simpa using this
  have hWs : W.heap.size = w.heap.size + 2 := by rw [← hW]; simp
  have hA : AbsAt W S (.slice A n c) l := h.below hS hx0.below
  obtain ⟨c0, c1⟩ := hx0.c2
  obtain ⟨d0, d1⟩ := hx1.c2
  have hf := hx1.fz
  have HC := Lib.hid (hA.at_ hn)
  have HN := Lib.hid hn
  have HA := Lib.hid hA
  have HX0 := Lib.hid hx0
  have HX1 := Lib.hid hx1
  have HWS := Lib.hid hWs
  have HW := Lib.hid hW
  clear hn h hA hx0 hx1 hWs
  go_enter Tryd.func66, Tryd.ntmps66
  go_wp2
  clear hW
  go_loop [3] (fun a => ∃ k : Nat, k ≤ n ∧ a = .int .i64 k ∧ Hid (trimLen l k = trimLen l l.length)) (fun a => (intOf a).toNat)
  case atStart => exact ⟨n, Nat.le_refl _, rfl, Lib.hid (by rw [HN.out])⟩
  case round =>
    obtain ⟨k, hk, rfl, hrel⟩ := hrel
    by_cases h0 : k = 0
    · subst h0
      have HF := Lib.hid (trim_stop (Nat.zero_le _) hrel.out (.inl rfl))
      go_wp2
      refine bodyPost_ret (v := .agg #[.bool false, .slice none 0 0]) (by simp [results, Tryd.results66, go_sem, d0, d1, hf]) rfl ?_
      have e0 : trimN l = [] := by unfold trimN; rw [← HF.out]; rfl
      have e : normB neg l = false := by unfold normB; rw [e0]; simp
      refine ⟨.slice none 0 0, by rw [e], ?_, (HX1.out.below.setCell (p := ⟨_, _, none⟩) (Nat.le_succ _) _).setCell (p := ⟨_, _, none⟩) (Nat.le_succ _) _⟩
      rw [e0]
      exact ⟨SS.nil, (fun x hx => by cases hx), Nat.zero_le _⟩
    · obtain ⟨b, o, rfl, hb, hcell⟩ := HC.out (by omega)
      have hc1 := hcell (k - 1) (by omega)
      have hkn : k - 1 + 1 ≤ l.length := by have := HN.out; omega
      obtain ⟨x, hx⟩ : ∃ x, x = l.getD (k - 1) 0 := ⟨_, rfl⟩
      rw [← hx] at hc1
      have hx1 : l.getD (k - 1) 1 = x := by
        have hkl : k - 1 < l.length := by rw [← HN.out]; omega
        rw [hx]; simp [List.getD, hkl]
      have HX := Lib.hid hx1
      have hkc : ((k : Int) - 1).toNat = k - 1 := by omega
      have HCE := Lib.hid hcell
      have HB := Lib.hid hb
      clear hcell hx hx1
      by_cases hz : x = 0
      · have hz' : ((x : Int) == 0) = true := by simp; omega
        have HS := Lib.hid (trim_step (m := k - 1) hkn (by rw [show k - 1 + 1 = k by omega]; exact hrel.out) (by rw [HX.out]; exact hz))
        clear hz
        go_wp2
        go_round
        case rel => exact ⟨k - 1, by omega, by congr 1; omega, HS⟩
        case measure => simp [intOf]; omega
      · have hz' : ((x : Int) == 0) = false := by simp; omega
        have HF := Lib.hid (trim_stop (m := k) (by have := HN.out; omega) hrel.out (.inr (by rw [HX.out]; exact hz)))
        have h1 : (k : Int) ≤ c := by omega
        have h2 : ((k : Int) == 0) = false := by simp; omega
        have h3 : (0 : Int) ≤ k := by omega
        clear hz
        go_wp2
        have hws := HWS.out
        have hW1s : (W.alloc (.cells #[] 128)).drew.heap.size = W.heap.size + 1 := by simp
        have hbW1 : Below W.heap.size W (W.alloc (.cells #[] 128)).drew := ((Below.refl _ W).alloc (Nat.le_refl _) _).drew
        have hkl : (l.take k).length = k := by rw [List.length_take]; have := HN.out; omega
        have HOW := Lib.hid (show (W.alloc (.cells #[] 128)).drew.ownsRow W.heap.size 128 1 (.slice (some ⟨W.heap.size, 0, none⟩) 0 0) 0 [] from (ownsRow_empty W W.heap.size 128 1 (Nat.le_refl _)).drew)
        have HSR := Lib.hid (show ∀ j u, ((l.take k).map u32V)[j]? = some u → (W.alloc (.cells #[] 128)).drew.cell? ((⟨b, o, none⟩ : Addr).add j) = some u from fun j u hj => by
          have hA2 := (HA.out.take (m := k) (by have := HN.out; omega)).1
          rw [hkl] at hA2
          obtain ⟨b', o', e', _, hc'⟩ := hA2.at_ (by omega)
          injection e' with e'
          injection e' with e1 e2
          subst e1; subst e2
          have h4 := hc' j u hj
          have hbs := hS b HB.out
          rw [← hbW1.cell (p := ⟨b, o + j, none⟩) (by show b < _; omega)] at h4
          rw [← h4]
          unfold Addr.add; split
          · rename_i h5; simp [h5]
          · rfl)
        have HKL := Lib.hid hkl
        have HST := Lib.hid (show ∀ (w4 : World), (W.alloc (.cells #[] 128)).drew.grownBy w4 (some W.heap.size) → Below W.heap.size W w4 from fun w4 hg => hbW1.grown hg (by omega) (fun k hk => by injection hk with hk; omega))
        clear hkl hws
        go_region_held3 (fun w' => w'.cell? ⟨w.heap.size, 0, none⟩ = some (.bool neg) ∧ w'.cell? ⟨w.heap.size, 1, none⟩ = some (.slice (some ⟨b, o, none⟩) n c)) (go_keep)
          ((refine step_append_two _ (by rfl) _ _ 22 23 (by rfl) W.heap.size 128 i0 _ 1 4 Tryd.underlying22 Tryd.underlying23 hi0 hz0 hz1 hz2 rfl (by omega) _ 0 [] (by rfl) HOW.out ⟨b, o, none⟩ k c ((l.take k).map u32V) (by rfl) (by rw [List.length_map, HKL.out]; omega) HSR.out (by intro u hu; obtain ⟨x, _, rfl⟩ := List.mem_map.1 hu; rfl) (by omega) (by unfold maxLen; omega) (by omega) (by simp) (W.heap.size + 1) (by simp) ?_; intro g cap w4 hown4 hgrow hat hlt; have hb4 := HST.out w4 hgrow; obtain ⟨s0, s1⟩ := (HX0.out.step hb4).c2; obtain ⟨y0, y1⟩ := (HX1.out.step hb4).c2; have yf := (HX1.out.step hb4).fz))
        go_wp2
        refine bodyPost_ret (v := .agg #[.bool neg, .slice (some ⟨g, 0, none⟩) k cap]) (by simp [results, Tryd.results66, go_sem, y0, y1, yf]) rfl ?_
        have hws2 := HWS.out
        have e0 : trimN l = l.take k := by unfold trimN; rw [← HF.out]
        have e : normB neg l = neg := by unfold normB; rw [e0, HKL.out, decide_eq_true (by omega), Bool.and_true]
        have hA4 : AbsAt w4 (fun b => W.heap.size ≤ b ∧ b < w4.heap.size) (.slice (some ⟨g, 0, none⟩) k cap) (l.take k) := by
          have hS4 := SS.of_own hown4
          simp only [Nat.zero_add, List.nil_append] at hS4
          refine ⟨by rw [HKL.out]; exact hS4, fun x hx => HA.out.2.1 x (List.mem_of_mem_take hx), by rw [HKL.out]; omega⟩
        refine ⟨.slice (some ⟨g, 0, none⟩) k cap, by rw [e], ?_, ((HX1.out.step hb4).below.setCell (p := ⟨_, _, none⟩) (Nat.le_succ _) _).setCell (p := ⟨_, _, none⟩) (Nat.le_succ _) _⟩
        rw [e0]
        exact ((hA4.setCell _ (by omega)).setCell _ (by omega)).more (fun b hb => ⟨by omega, by simp; omega⟩)

end Fm
end Go.Proofs.YtkjbfomokdjbnaaDoor
