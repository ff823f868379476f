/-
  The reference's integers: Int, SameInt.
-/
import Derived.Test.YtkjbfomokdjbnaaDoorFmI
import Derived.Test.YtkjbfomokdjbnaaDoorApp
import Derived.Deep.RegionLaw
namespace Go.Proofs.YtkjbfomokdjbnaaDoor
open Go.RowKit
set_option linter.unusedSimpArgs false
set_option linter.unusedVariables false
namespace Fm

theorem _root_.Go.RowKit.Below.drewN {B : Nat} {a w : World} (h : Below B a w) (n : Nat) : Below B a (w.drewN n) := ⟨h.os, h.tape, h.output, h.size, h.block⟩

theorem trim_stop {l : List Nat} {m : Nat} (hm : m ≤ l.length) (h1 : trimLen l m = trimLen l l.length) (h2 : m = 0 ∨ l.getD (m - 1) 1 ≠ 0) : m = trimLen l l.length := by
  have e : trimLen l m = m := by
    rcases h2 with rfl | h2
    · rfl
    · cases m with
      | zero => rfl
      | succ m => unfold trimLen; rw [if_neg (by simpa using h2)]
  rw [← h1, e]
theorem trim_step {l : List Nat} {m : Nat} (hm : m + 1 ≤ l.length) (h1 : trimLen l (m + 1) = trimLen l l.length) (h2 : l.getD m 1 = 0) : trimLen l m = trimLen l l.length := by
  rw [← h1]
  conv => rhs; unfold trimLen
  rw [if_pos h2]

set_option maxRecDepth 100000 in
set_option maxHeartbeats 4000000 in
theorem rint_any (neg : Bool) (l : List Nat) (v : Value) (S : Nat → Prop) (w : World) (hS : ∀ b, S b → b < w.heap.size) (h : AbsAt w S v l) (hl : l.length ≤ 1000000) :
    Calls Tryd.prog 66 #[.agg #[.bool neg, v]] w (NormPost neg l w) := by
  obtain ⟨A, c, rfl⟩ := h.form
  obtain ⟨n, hn⟩ : ∃ n, n = l.length := ⟨_, rfl⟩
  rw [← hn] at h hl ⊢
  have hc : n ≤ c := by have := h.cap.2; omega
  obtain ⟨i0, hi0, hz0, hz1, hz2⟩ := info_parts infoU32
  obtain ⟨W, hW⟩ : ∃ W, (w.alloc (.cells #[.bool neg, .slice A n c] 25)).alloc (.cells #[.bool false, .slice none 0 0] 25) = W := ⟨_, rfl⟩
  have hx0 : Box w W w.heap.size #[.bool neg, .slice A n c] 25 := by rw [← hW]; exact (Box.new w _ _).alloc _
  have hx1 : Box w W (w.heap.size + 1) #[.bool false, .slice none 0 0] 25 := by
    rw [← hW]
    refine ⟨((Below.refl _ w).alloc (Nat.le_refl _) _).alloc (by simp) _, ?_⟩
    have := heap_alloc_new (w.alloc (.cells #[.bool neg, .slice A n c] 25)) (.cells #[.bool false, .slice none 0 0] 25)
    simpa using this
  have hWs : W.heap.size = w.heap.size + 2 := by rw [← hW]; simp
  have hA : AbsAt W S (.slice A n c) l := h.below hS hx0.below
  obtain ⟨c0, c1⟩ := hx0.c2
  obtain ⟨d0, d1⟩ := hx1.c2
  have hf := hx1.fz
  have HC := Lib.hid (hA.at_ hn)
  have HN := Lib.hid hn
  have HA := Lib.hid hA
  have HX0 := Lib.hid hx0
  have HX1 := Lib.hid hx1
  have HWS := Lib.hid hWs
  have HW := Lib.hid hW
  clear hn h hA hx0 hx1 hWs
  go_enter Tryd.func66, Tryd.ntmps66
  go_wp2
  clear hW
  go_loop [3] (fun a => ∃ k : Nat, k ≤ n ∧ a = .int .i64 k ∧ Hid (trimLen l k = trimLen l l.length)) (fun a => (intOf a).toNat)
  case atStart => exact ⟨n, Nat.le_refl _, rfl, Lib.hid (by rw [HN.out])⟩
  case round =>
    obtain ⟨k, hk, rfl, hrel⟩ := hrel
    by_cases h0 : k = 0
    · subst h0
      have HF := Lib.hid (trim_stop (Nat.zero_le _) hrel.out (.inl rfl))
      go_wp2
      refine bodyPost_ret (v := .agg #[.bool false, .slice none 0 0]) (by simp [results, Tryd.results66, go_sem, d0, d1, hf]) rfl ?_
      have e0 : trimN l = [] := by unfold trimN; rw [← HF.out]; rfl
      have e : normB neg l = false := by unfold normB; rw [e0]; simp
      refine ⟨.slice none 0 0, by rw [e], ?_, (HX1.out.below.setCell (p := ⟨_, _, none⟩) (Nat.le_succ _) _).setCell (p := ⟨_, _, none⟩) (Nat.le_succ _) _⟩
      rw [e0]
      exact ⟨SS.nil, (fun x hx => by cases hx), Nat.zero_le _⟩
    · obtain ⟨b, o, rfl, hb, hcell⟩ := HC.out (by omega)
      have hc1 := hcell (k - 1) (by omega)
      have hkn : k - 1 + 1 ≤ l.length := by have := HN.out; omega
      obtain ⟨x, hx⟩ : ∃ x, x = l.getD (k - 1) 0 := ⟨_, rfl⟩
      rw [← hx] at hc1
      have hx1 : l.getD (k - 1) 1 = x := by
        have hkl : k - 1 < l.length := by rw [← HN.out]; omega
        rw [hx]; simp [List.getD, hkl]
      have HX := Lib.hid hx1
      have hkc : ((k : Int) - 1).toNat = k - 1 := by omega
      have HCE := Lib.hid hcell
      have HB := Lib.hid hb
      clear hcell hx hx1
      by_cases hz : x = 0
      · have hz' : ((x : Int) == 0) = true := by simp; omega
        have HS := Lib.hid (trim_step (m := k - 1) hkn (by rw [show k - 1 + 1 = k by omega]; exact hrel.out) (by rw [HX.out]; exact hz))
        clear hz
        go_wp2
        go_round
        case rel => exact ⟨k - 1, by omega, by congr 1; omega, HS⟩
        case measure => simp [intOf]; omega
      · have hz' : ((x : Int) == 0) = false := by simp; omega
        have HF := Lib.hid (trim_stop (m := k) (by have := HN.out; omega) hrel.out (.inr (by rw [HX.out]; exact hz)))
        have h1 : (k : Int) ≤ c := by omega
        have h2 : ((k : Int) == 0) = false := by simp; omega
        have h3 : (0 : Int) ≤ k := by omega
        clear hz
        go_wp2
        have hws := HWS.out
        have hW1s : (W.alloc (.cells #[] 128)).drew.heap.size = W.heap.size + 1 := by simp
        have hbW1 : Below W.heap.size W (W.alloc (.cells #[] 128)).drew := ((Below.refl _ W).alloc (Nat.le_refl _) _).drew
        have hkl : (l.take k).length = k := by rw [List.length_take]; have := HN.out; omega
        have HOW := Lib.hid (show (W.alloc (.cells #[] 128)).drew.ownsRow W.heap.size 128 1 (.slice (some ⟨W.heap.size, 0, none⟩) 0 0) 0 [] from (ownsRow_empty W W.heap.size 128 1 (Nat.le_refl _)).drew)
        have HSR := Lib.hid (show ∀ j u, ((l.take k).map u32V)[j]? = some u → (W.alloc (.cells #[] 128)).drew.cell? ((⟨b, o, none⟩ : Addr).add j) = some u from fun j u hj => by
          have hA2 := (HA.out.take (m := k) (by have := HN.out; omega)).1
          rw [hkl] at hA2
          obtain ⟨b', o', e', _, hc'⟩ := hA2.at_ (by omega)
          injection e' with e'
          injection e' with e1 e2
          subst e1; subst e2
          have h4 := hc' j u hj
          have hbs := hS b HB.out
          rw [← hbW1.cell (p := ⟨b, o + j, none⟩) (by show b < _; omega)] at h4
          rw [← h4]
          unfold Addr.add; split
          · rename_i h5; simp [h5]
          · rfl)
        have HKL := Lib.hid hkl
        have HST := Lib.hid (show ∀ (w4 : World), (W.alloc (.cells #[] 128)).drew.grownBy w4 (some W.heap.size) → Below W.heap.size W w4 from fun w4 hg => hbW1.grown hg (by omega) (fun k hk => by injection hk with hk; omega))
        clear hkl hws
        go_region_held3 (fun w' => w'.cell? ⟨w.heap.size, 0, none⟩ = some (.bool neg) ∧ w'.cell? ⟨w.heap.size, 1, none⟩ = some (.slice (some ⟨b, o, none⟩) n c)) (go_keep)
          ((refine step_append_two _ (by rfl) _ _ 22 23 (by rfl) W.heap.size 128 i0 _ 1 4 Tryd.underlying22 Tryd.underlying23 hi0 hz0 hz1 hz2 rfl (by omega) _ 0 [] (by rfl) HOW.out ⟨b, o, none⟩ k c ((l.take k).map u32V) (by rfl) (by rw [List.length_map, HKL.out]; omega) HSR.out (by intro u hu; obtain ⟨x, _, rfl⟩ := List.mem_map.1 hu; rfl) (by omega) (by unfold maxLen; omega) (by omega) (by simp) (W.heap.size + 1) (by simp) ?_; intro g cap w4 hown4 hgrow hat hlt; have hb4 := HST.out w4 hgrow; obtain ⟨s0, s1⟩ := (HX0.out.step hb4).c2; obtain ⟨y0, y1⟩ := (HX1.out.step hb4).c2; have yf := (HX1.out.step hb4).fz))
        go_wp2
        refine bodyPost_ret (v := .agg #[.bool neg, .slice (some ⟨g, 0, none⟩) k cap]) (by simp [results, Tryd.results66, go_sem, y0, y1, yf]) rfl ?_
        have hws2 := HWS.out
        have e0 : trimN l = l.take k := by unfold trimN; rw [← HF.out]
        have e : normB neg l = neg := by unfold normB; rw [e0, HKL.out, decide_eq_true (by omega), Bool.and_true]
        have hA4 : AbsAt w4 (fun b => W.heap.size ≤ b ∧ b < w4.heap.size) (.slice (some ⟨g, 0, none⟩) k cap) (l.take k) := by
          have hS4 := SS.of_own hown4
          simp only [Nat.zero_add, List.nil_append] at hS4
          refine ⟨by rw [HKL.out]; exact hS4, fun x hx => HA.out.2.1 x (List.mem_of_mem_take hx), by rw [HKL.out]; omega⟩
        refine ⟨.slice (some ⟨g, 0, none⟩) k cap, by rw [e], ?_, ((HX1.out.step hb4).below.setCell (p := ⟨_, _, none⟩) (Nat.le_succ _) _).setCell (p := ⟨_, _, none⟩) (Nat.le_succ _) _⟩
        rw [e0]
        exact ((hA4.setCell _ (by omega)).setCell _ (by omega)).more (fun b hb => ⟨by omega, by simp; omega⟩)

theorem list_ne_at {a b : List Nat} (hl : a.length = b.length) (h : a ≠ b) : ∃ i, i < a.length ∧ a.getD i 0 ≠ b.getD i 0 := by
  apply Classical.byContradiction
  intro hn
  apply h
  apply List.ext_getElem hl
  intro i h1 h2
  apply Classical.byContradiction
  intro hne
  exact hn ⟨i, h1, by simp [List.getD, h1, h2]; exact hne⟩

set_option maxHeartbeats 4000000 in
theorem sameInt_any (na nb : Bool) (la lb : List Nat) (va vb : Value) (S : Nat → Prop) (w : World) (hS : ∀ b, S b → b < w.heap.size) (ha : AbsAt w S va la) (hb : AbsAt w S vb lb) (r : Bool) (hr : r = (na == nb && la == lb)) :
    Calls Tryd.prog 36 #[.agg #[.bool na, va], .agg #[.bool nb, vb]] w fun e w' => e = .returned (.bool r) ∧ Below w.heap.size w w' := by
  obtain ⟨A1, c1, rfl⟩ := ha.form
  obtain ⟨A2, c2, rfl⟩ := hb.form
  obtain ⟨n, hn⟩ : ∃ n, n = la.length := ⟨_, rfl⟩
  obtain ⟨m, hm⟩ : ∃ m, m = lb.length := ⟨_, rfl⟩
  rw [← hn] at ha ⊢
  rw [← hm] at hb ⊢
  have hn64 := ha.2.2
  have hm64 := hb.2.2
  rw [← hn] at hn64
  rw [← hm] at hm64
  obtain ⟨W, hW⟩ : ∃ W, (w.alloc (.cells #[.bool na, .slice A1 n c1] 25)).alloc (.cells #[.bool nb, .slice A2 m c2] 25) = W := ⟨_, rfl⟩
  have hbel : Below w.heap.size w W := by rw [← hW]; exact ((Below.refl _ w).alloc (Nat.le_refl _) _).alloc (by simp) _
  have hA := ha.below hS hbel
  have hB := hb.below hS hbel
  have x0 : W.cell? ⟨w.heap.size, 0, none⟩ = some (.bool na) := by rw [← hW]; exact (Box.new w _ _ |>.alloc _).cell 0
  have x1 : W.cell? ⟨w.heap.size, 1, none⟩ = some (.slice A1 n c1) := by rw [← hW]; exact (Box.new w _ _ |>.alloc _).cell 1
  have hsz : (w.alloc (.cells #[.bool na, .slice A1 n c1] 25)).heap.size = w.heap.size + 1 := by simp
  have z0 : W.cell? ⟨w.heap.size + 1, 0, none⟩ = some (.bool nb) := by rw [← hW, ← hsz]; exact (Box.new _ _ _).cell 0
  have z1 : W.cell? ⟨w.heap.size + 1, 1, none⟩ = some (.slice A2 m c2) := by rw [← hW, ← hsz]; exact (Box.new _ _ _).cell 1
  have HA := Lib.hid (hA.at_ hn)
  have HB := Lib.hid (hB.at_ hm)
  have HN := Lib.hid hn
  have HM := Lib.hid hm
  have HR := Lib.hid hr
  have HBel := Lib.hid hbel
  clear hn hm hr hA hB ha hb hbel hS hsz
  by_cases hneg : na = nb
  · subst hneg
    have g1 : (na != na) = false := by simp
    by_cases hlen : n = m
    · subst hlen
      have g2 : ((n : Int) != n) = false := by simp
      go_enter Tryd.func36, Tryd.ntmps36
      go_wp2
      clear hW
      go_loopw [23] (fun a wr => ∃ k : Nat, k ≤ n ∧ a = .int .i64 k ∧ (∃ d, wr = W.drewN d) ∧ Hid (∀ i, i < k → la.getD i 0 = lb.getD i 0)) (fun a _ => n - (intOf a).toNat)
      case atStart => exact ⟨0, Nat.zero_le _, rfl, ⟨0, rfl⟩, Lib.hid (fun i h => by omega)⟩
      case round =>
        obtain ⟨k, hk, rfl, ⟨d, rfl⟩, hall⟩ := hrel
        by_cases hlt : k < n
        · obtain ⟨b1, o1, rfl, _, hc1⟩ := HA.out (by omega)
          obtain ⟨b2, o2, rfl, _, hc2⟩ := HB.out (by omega)
          have p1 := hc1 k hlt
          have p2 := hc2 k hlt
          obtain ⟨x, hx⟩ : ∃ x, x = la.getD k 0 := ⟨_, rfl⟩
          obtain ⟨y, hy⟩ : ∃ y, y = lb.getD k 0 := ⟨_, rfl⟩
          rw [← hx] at p1
          rw [← hy] at p2
          have HX := Lib.hid hx
          have HY := Lib.hid hy
          clear hc1 hc2 hx hy
          by_cases hxy : x = y
          · subst hxy
            have g3 : ((x : Int) != x) = false := by simp
            have HA2 := Lib.hid (show ∀ i, i < k + 1 → la.getD i 0 = lb.getD i 0 from fun i h => by
              rcases Nat.lt_or_eq_of_le (Nat.le_of_lt_succ h) with h' | h'
              · exact hall.out i h'
              · subst h'; rw [← HX.out, ← HY.out])
            go_wp2_with fail
            go_quiet (fail)
            go_wp2
            go_roundw
            case rel => exact ⟨k + 1, by omega, by go_num, ⟨_, rfl⟩, HA2⟩
            case measure => simp [intOf]; omega
          · have g3 : ((x : Int) != y) = true := by simp; omega
            have HF := Lib.hid (show r = false by
              rw [HR.out]
              have : la ≠ lb := fun e => hxy (by rw [HX.out, HY.out, e])
              simp [this])
            clear hxy
            go_wp2_with fail
            go_quiet (fail)
            go_wp2
            go_ret
            exact ⟨by rw [HF.out]; rfl, by first | exact HBel.out.drewN _ | exact (HBel.out.drewN _).drewN _⟩
        · have HF := Lib.hid (show r = true by
            rw [HR.out]
            have : la = lb := by
              apply Classical.byContradiction
              intro h
              obtain ⟨i, h1, h2⟩ := list_ne_at (HN.out.symm.trans HM.out) h
              exact h2 (hall.out i (by have := HN.out; omega))
            simp [this])
          go_wp2
          go_ret
          exact ⟨by rw [HF.out]; rfl, by first | exact HBel.out.drewN _ | exact (HBel.out.drewN _).drewN _⟩
    · have g2 : ((n : Int) != m) = true := by simp; omega
      have HF := Lib.hid (show r = false by
        rw [HR.out]
        have : la ≠ lb := fun e => hlen (by rw [HN.out, HM.out, e])
        simp [this])
      clear hlen
      go_enter Tryd.func36, Tryd.ntmps36
      go_wp2
      go_ret
      exact ⟨by rw [HF.out]; rfl, HBel.out⟩
  · have g1 : (na != nb) = true := by simpa using hneg
    have HF := Lib.hid (show r = false by rw [HR.out]; simp [hneg])
    have hcase : (na = true ∧ nb = false) ∨ (na = false ∧ nb = true) := by cases na <;> cases nb <;> simp at hneg ⊢
    clear hneg g1
    rcases hcase with ⟨rfl, rfl⟩ | ⟨rfl, rfl⟩
    all_goals
     go_enter Tryd.func36, Tryd.ntmps36
     go_wp2
     go_ret
     exact ⟨by rw [HF.out]; rfl, HBel.out⟩
end Fm
end Go.Proofs.YtkjbfomokdjbnaaDoor
