/-
  The reference's Nodes, Atoms, names and badNames.
-/
import Derived.Test.YteneobpacobpdaaChP
import Derived.Test.YteneobpacobpdaaFmPa
import Derived.Test.YteneobpacobpdaaFmZn
namespace Go.Proofs.Yteneobpacobpdaa
open Go.RowKit Go.Sort
set_option linter.unusedSimpArgs false
set_option linter.unusedVariables false
namespace Ch
open Fm Va Dc

set_option maxRecDepth 100000 in
set_option maxHeartbeats 8000000 in
theorem nodes_ref (t : Tr) (cs : List Value) (S : Nat → Prop) (w : World) (hS : ∀ b, S b → b < w.heap.size) (hT : TreeAt w S t cs) (hn : nn t ≤ 100000) :
    Calls Try.prog 29 #[.agg cs.toArray] w fun e w' => e = .returned (.int .i64 (nn t : Int)) ∧ Below w.heap.size w w' := by
  obtain ⟨A1, n1, c1, A2, n2, c2, k, neg, nm, ex, rl, tr, al, rfl⟩ := hT.nine
  have hx := Box.new w #[.int .i64 k, .bool neg, .slice A1 n1 c1, .string nm, .int .i64 ex, .int .i64 rl, .bool tr, .bool al, .slice A2 n2 c2] TT
  have HX := Lib.hid hx
  have HC := Lib.hid (list_any t _ S 0 _ (fun b hb => Nat.lt_of_lt_of_le (hS b hb) hx.below.size) (hT.below hS hx.below) hn (by omega) (by omega))
  obtain ⟨L, hL⟩ : ∃ L, L = flatF t 0 := ⟨_, rfl⟩
  obtain ⟨N, hN⟩ : ∃ N, N = L.length := ⟨_, rfl⟩
  have hN1 : N = nn t := by rw [hN, hL, flatF_len]
  rw [← hN1]
  rw [← hL] at HC
  have HN := Lib.hid hN
  clear hx hT hL hN hS hn hN1
  go_enter Try.func29, Try.ntmps29
  go_wp2_with (go_at_call 14; refine HC.out.mono ?_; intro e w1 hp; obtain ⟨g1, d1, g2, d2, ys, rfl, hoA, htA, hoB, hb1⟩ := hp.named N HN.out; clear hp; have HB1 := Lib.hid hb1; clear hoA htA hoB hb1)
  go_ret
  exact ⟨rfl, HX.out.below.trans (HB1.out.mono HX.out.below.size)⟩

set_option maxRecDepth 100000 in
set_option maxHeartbeats 8000000 in
theorem atoms_ref (t : Tr) (cs : List Value) (S : Nat → Prop) (w : World) (hS : ∀ b, S b → b < w.heap.size) (hT : TreeAt w S t cs) (hn : nn t ≤ 100000) :
    Calls Try.prog 30 #[.agg cs.toArray] w fun e w' => e = .returned (.int .i64 (atL (partsL (flatF t 0)) : Int)) ∧ Below w.heap.size w w' := by
  obtain ⟨A1, n1, c1, A2, n2, c2, k, neg, nm, ex, rl, tr, al, rfl⟩ := hT.nine
  have hx := Box.new w #[.int .i64 k, .bool neg, .slice A1 n1 c1, .string nm, .int .i64 ex, .int .i64 rl, .bool tr, .bool al, .slice A2 n2 c2] TT
  have HX := Lib.hid hx
  have HC := Lib.hid (parts_ref t _ S _ (fun b hb => Nat.lt_of_lt_of_le (hS b hb) hx.below.size) (hT.below hS hx.below) hn)
  obtain ⟨L, hL⟩ : ∃ L, L = partsL (flatF t 0) := ⟨_, rfl⟩
  obtain ⟨N, hN⟩ : ∃ N, N = L.length := ⟨_, rfl⟩
  have hN1 : N ≤ 100000 := by
    have := partsL_len (flatF t 0) (flatF t 0).length
    rw [List.take_length, flatF_len] at this
    rw [hN, hL]; omega
  rw [← hL] at HC ⊢
  have HN := Lib.hid hN
  clear hx hT hL hN hS hn
  go_enter Try.func30, Try.ntmps30
  go_wp2_with (go_at_call 48; refine HC.out.mono ?_; intro e w1 hp; obtain ⟨v1, v2, ys, rfl, hoA, htA, _, hb1⟩ := hp; obtain ⟨r1, q1, rfl⟩ := row_form (by omega) hoA; rw [← HN.out] at hoA ⊢; have HOA := Lib.hid hoA; have HTA := Lib.hid htA; have HB1 := Lib.hid hb1; clear hoA htA hb1)
  have hs1 : w.heap.size ≤ w1.heap.size := Nat.le_trans HX.out.below.size HB1.out.size
  go_loopw [3, 14] (fun v3 a_ wr => ∃ (i : Nat), i ≤ N ∧ a_ = .int .i64 i ∧ v3 = .int .i64 (atL (L.take i) : Int) ∧ Below w1.heap.size w1 wr) (fun _ a_ _ => N - (intOf a_).toNat)
  case atStart => exact ⟨0, Nat.zero_le _, rfl, rfl, Below.refl _ _⟩
  case round =>
    obtain ⟨i, hi, rfl, rfl, hbr⟩ := hrel
    by_cases hlt : i < N
    · obtain ⟨g1, cp1, hv, _, _⟩ := HOA.out.form (by omega)
      injection hv with hv1 hv2 hv3
      subst hv1; subst hv3
      obtain ⟨td, B1, m1, e1, B2, m2, e2, k', neg', nm', ex', rl', tr', al', htd, hTd, hk', hnm', g0, g1', g2', g3, g4, g5, g6, g7, g8⟩ := row_tree HOA.out HTA.out (by rw [List.length_map]; exact HN.out) hbr i hlt
      obtain ⟨p, hp⟩ : ∃ p, L[i]? = some p := ⟨_, List.getElem?_eq_getElem (by have := HN.out; omega)⟩
      obtain rfl : p.1 = td := by rw [List.getElem?_map, hp] at htd; simpa using htd
      have hstep := atL_take hp
      have hln := atL_len L i
      obtain ⟨M, hM⟩ : ∃ M, M = atL (L.take i) := ⟨_, rfl⟩
      rw [← hM] at hstep hln ⊢
      rw [hk'] at hstep
      have HST := Lib.hid hstep
      have HBR := Lib.hid hbr
      have hMN : M ≤ N := by have := HN.out; omega
      clear hstep hM hbr hTd hk' hnm' htd hp hln
      by_cases h9 : k' = 9
      · subst h9
        go_wp2
        go_roundw
        case rel => exact ⟨i + 1, by omega, by go_num, by rw [HST.out]; rfl, HBR.out⟩
        case measure => simp [intOf]; omega
      · have hk0 : (k' == 9) = false := by simpa using h9
        have HST2 := Lib.hid (show atL (L.take (i + 1)) = M by rw [HST.out, if_neg h9]; rfl)
        clear h9 HST
        go_wp2
        go_roundw
        case rel => exact ⟨i + 1, by omega, by go_num, by rw [HST2.out], HBR.out⟩
        case measure => simp [intOf]; omega
    · have h1 : L.take i = L := List.take_of_length_le (by have := HN.out; omega)
      rw [h1]
      clear h1
      go_wp2
      go_ret
      exact ⟨rfl, HX.out.below.trans ((HB1.out.trans (hbr.mono HB1.out.size)).mono HX.out.below.size)⟩

set_option maxRecDepth 100000 in
set_option maxHeartbeats 8000000 in
theorem rnames_any (t : Tr) (cs : List Value) (S : Nat → Prop) (w : World) (hS : ∀ b, S b → b < w.heap.size) (hT : TreeAt w S t cs) (hn : nn t ≤ 100000) :
    Calls Try.prog 27 #[.agg cs.toArray] w fun e w' => ∃ v', e = .returned v' ∧ w'.ownsRow w.heap.size tStr 1 v' (nmL (flatF t 0)).length ((nmL (flatF t 0)).map Value.string) ∧ Below w.heap.size w w' := by
  obtain ⟨A1, n1, c1, A2, n2, c2, k, neg, nm, ex, rl, tr, al, rfl⟩ := hT.nine
  have hx := Box.new w #[.int .i64 k, .bool neg, .slice A1 n1 c1, .string nm, .int .i64 ex, .int .i64 rl, .bool tr, .bool al, .slice A2 n2 c2] TT
  have HX := Lib.hid hx
  have HC := Lib.hid (list_any t _ S 0 _ (fun b hb => Nat.lt_of_lt_of_le (hS b hb) hx.below.size) (hT.below hS hx.below) hn (by omega) (by omega))
  obtain ⟨L, hL⟩ : ∃ L, L = flatF t 0 := ⟨_, rfl⟩
  obtain ⟨N, hN⟩ : ∃ N, N = L.length := ⟨_, rfl⟩
  have hN1 : N ≤ 100000 := by rw [hN, hL, flatF_len]; exact hn
  rw [← hL] at HC ⊢
  have HN := Lib.hid hN
  clear hx hT hL hN hS hn
  obtain ⟨i0, hi0, hz0, hz1, hz2⟩ := info_parts infoStr
  go_enter Try.func27, Try.ntmps27
  go_wp2_with (go_at_call 14; refine HC.out.mono ?_; intro e w1 hp; obtain ⟨g1, d1, g2, d2, ys, rfl, hoA, htA, hoB, hb1⟩ := hp.named N HN.out; clear hp; have HOA := Lib.hid hoA; have HTA := Lib.hid htA; have HB1 := Lib.hid hb1; clear hoA htA hoB hb1)
  have hs1 : w.heap.size ≤ w1.heap.size := Nat.le_trans HX.out.below.size HB1.out.size
  go_loopw [3, 14] (fun v3 a_ wr => ∃ (i : Nat), i ≤ N ∧ a_ = .int .i64 i ∧ Below w1.heap.size w1 wr ∧ Hid (wr.ownsRow w1.heap.size tStr 1 v3 (nmL (L.take i)).length ((nmL (L.take i)).map Value.string))) (fun _ a_ _ => N - (intOf a_).toNat)
  case atStart => exact ⟨0, Nat.zero_le _, rfl, Below.refl _ _, Lib.hid ⟨rfl, .inl ⟨rfl, rfl⟩⟩⟩
  case round =>
    obtain ⟨i, hi, rfl, hbr, ho⟩ := hrel
    by_cases hlt : i < N
    · obtain ⟨td, B1, m1, e1, B2, m2, e2, k', neg', nm', ex', rl', tr', al', htd, hTd, hk', hnm', g0, g1', g2', g3, g4, g5, g6, g7, g8⟩ := row_tree HOA.out HTA.out (by rw [List.length_map]; exact HN.out) hbr i hlt
      obtain ⟨p, hp⟩ : ∃ p, L[i]? = some p := ⟨_, List.getElem?_eq_getElem (by have := HN.out; omega)⟩
      obtain rfl : p.1 = td := by rw [List.getElem?_map, hp] at htd; simpa using htd
      have hstep := nmL_take hp
      have hln := nmL_len L i
      obtain ⟨M, hM⟩ : ∃ M, M = (nmL (L.take i)).length := ⟨_, rfl⟩
      have ho' := ho.out
      rw [← hM] at ho' hln
      rw [hk', hnm'] at hstep
      have HO1 := Lib.hid ho'
      have HST := Lib.hid hstep
      have HM := Lib.hid hM
      have HBR := Lib.hid hbr
      have hbs := hbr.size
      have hMN : M ≤ N := by have := HN.out; omega
      clear ho' ho hstep hM hbr hTd hk' hnm' htd hp hln
      obtain ⟨r3, q3, rfl⟩ := row_form (by omega) HO1.out
      have yes : k' = 2 ∨ k' = 15 → Hid (∀ (gg cap3 : Nat) (w3 : World), w3.ownsRow w1.heap.size tStr 1 (.slice (some ⟨gg, 0, none⟩) (M + 1) cap3) (M + 1) ((nmL (L.take i)).map Value.string ++ [.string nm']) → w3.ownsRow w1.heap.size tStr 1 (.slice (some ⟨gg, 0, none⟩) (M + 1) cap3) (nmL (L.take (i + 1))).length ((nmL (L.take (i + 1))).map Value.string)) := fun h => Lib.hid (by
        intro gg cap3 w3 h3
        rw [HST.out, if_pos h]
        rw [show (nmL (L.take i) ++ [nm']).length = M + 1 by rw [List.length_append, ← HM.out]; rfl, List.map_append]
        exact h3)
      by_cases h2 : k' = 2
      · subst h2
        have HY := yes (.inl rfl)
        clear yes
        go_wp2_with (first
          | (at_builtin; refine wpList_append_lies _ rfl (.tmp 31) (.tmp 37) 50 rfl w1.heap.size tStr i0 _ 1 16 Try.underlying50 hi0 hz0 hz1 hz2 rfl (by decide) (.slice r3 M q3) M _ rfl (HO1.out.alloc _) ⟨wr.heap.size, 0, none⟩ 1 1 [.string nm'] rfl rfl (cell_one_new _ _ _) (by intro u hu; simp at hu; rw [hu]; rfl) (by omega) (by unfold maxLen; omega) (by omega) (by simp; omega) _ rfl ?_; intro gg cap3 w3 ho3 hgrow3 hat3 hlt3; have HO3 := Lib.hid ho3; have HG3 := Lib.hid hgrow3; clear ho3 hat3 hgrow3))
        go_roundw
        case rel => exact ⟨i + 1, by omega, by go_num, (HBR.out.alloc HBR.out.size _).grown HG3.out (by simp; omega) (fun k hk => (HO1.out.lt k hk).1), Lib.hid (HY.out _ _ _ HO3.out)⟩
        case measure => simp [intOf]; omega
      · have hk2 : (k' == 2) = false := by simpa using h2
        by_cases h15 : k' = 15
        · subst h15
          have HY := yes (.inr rfl)
          clear yes
          go_wp2_with (first
            | (at_builtin; refine wpList_append_lies _ rfl (.tmp 31) (.tmp 37) 50 rfl w1.heap.size tStr i0 _ 1 16 Try.underlying50 hi0 hz0 hz1 hz2 rfl (by decide) (.slice r3 M q3) M _ rfl (HO1.out.alloc _) ⟨wr.heap.size, 0, none⟩ 1 1 [.string nm'] rfl rfl (cell_one_new _ _ _) (by intro u hu; simp at hu; rw [hu]; rfl) (by omega) (by unfold maxLen; omega) (by omega) (by simp; omega) _ rfl ?_; intro gg cap3 w3 ho3 hgrow3 hat3 hlt3; have HO3 := Lib.hid ho3; have HG3 := Lib.hid hgrow3; clear ho3 hat3 hgrow3))
          go_roundw
          case rel => exact ⟨i + 1, by omega, by go_num, (HBR.out.alloc HBR.out.size _).grown HG3.out (by simp; omega) (fun k hk => (HO1.out.lt k hk).1), Lib.hid (HY.out _ _ _ HO3.out)⟩
          case measure => simp [intOf]; omega
        · have hk0 : (k' == 15) = false := by simpa using h15
          have HST2 := Lib.hid (show nmL (L.take (i + 1)) = nmL (L.take i) by rw [HST.out, if_neg (by omega), List.append_nil])
          clear h15 h2 HST yes
          go_wp2
          go_roundw
          case rel => exact ⟨i + 1, by omega, by go_num, HBR.out, Lib.hid (by rw [HST2.out, ← HM.out]; exact HO1.out)⟩
          case measure => simp [intOf]; omega
    · have HP := Lib.hid (show wr.ownsRow w1.heap.size tStr 1 u3 (nmL L).length ((nmL L).map Value.string) by
        have h1 : L.take i = L := List.take_of_length_le (by have := HN.out; omega)
        have h2 := ho.out
        rw [h1] at h2
        exact h2)
      clear ho
      go_wp2
      go_ret
      exact ⟨u3, rfl, own_mono HP.out hs1, HX.out.below.trans ((HB1.out.trans (hbr.mono HB1.out.size)).mono HX.out.below.size)⟩

theorem StrsAt.take {w : World} {S : Nat → Prop} {n m c : Nat} {A : Option Addr} {l : List ByteArray} (h : StrsAt w S (.slice A n c) l) (hn : n = l.length) (hm : m ≤ n) : StrsAt w S (.slice A m c) (l.take m) := by
  subst hn
  obtain ⟨h1, h2⟩ := h
  have h3 := h1.take hm
  have hl : (l.take m).length = m := by rw [List.length_take]; exact Nat.min_eq_left hm
  refine ⟨?_, by omega⟩
  rw [hl, List.map_take]
  simpa using h3
def HasQ (v : Value) (s : ByteArray) (z : Bool) (W : World) : Prop := ∀ d os, Calls Try.prog 28 #[v, .string s] (grow (redrawn W d) os) fun e w' => e = .returned (.bool z) ∧ Below (grow (redrawn W d) os).heap.size (grow (redrawn W d) os) w'
theorem has_quiet {W : World} {S : Nat → Prop} {v : Value} {l : List ByteArray} (h : StrsAt W S v l) (hS : ∀ b, S b → b < W.heap.size) (s : ByteArray) (z : Bool) (hz : z = decide (s ∈ l)) : HasQ v s z W := fun d os =>
  (has_any l v s S _ (h.below hS (below_regrown W d os)) z (by rw [hz]; simp)).mono (by rintro e w' ⟨rfl, rfl⟩; exact ⟨rfl, Below.refl _ _⟩)
theorem badB_drop {o b : List ByteArray} {i : Nat} {x : ByteArray} (h : b[i]? = some x) : badB o (b.take i) (b.drop i) = (decide (x ∈ b.take i) || (decide (x ∈ o) || badB o (b.take (i + 1)) (b.drop (i + 1)))) := by
  obtain ⟨hi, rfl⟩ := List.getElem?_eq_some_iff.1 h
  rw [List.drop_eq_getElem_cons hi, List.take_succ_eq_append_getElem hi]; rfl

set_option maxRecDepth 100000 in
set_option maxHeartbeats 8000000 in
theorem rbad_any (t : Tr) (cs : List Value) (S : Nat → Prop) (w : World) (hS : ∀ b, S b → b < w.heap.size) (hT : TreeAt w S t cs) (hn : nn t ≤ 100000) (hsz : ∀ nm ∈ nmL (flatF t 0), nm.size ≤ 1000000) (hfl : (freeR t [] []).length ≤ 1000000) (hbl : (qNames (partsL (flatF t 0))).length ≤ 1000000) :
    Calls Try.prog 26 #[.agg cs.toArray] w fun e w' => e = .returned (.bool (rBad t)) ∧ Below w.heap.size w w' := by
  obtain ⟨A1, n1, c1, A2, n2, c2, k, neg, nm, ex, rl, tr, al, rfl⟩ := hT.nine
  have hx := Box.new w #[.int .i64 k, .bool neg, .slice A1 n1 c1, .string nm, .int .i64 ex, .int .i64 rl, .bool tr, .bool al, .slice A2 n2 c2] TT
  have HX := Lib.hid hx
  have hlt : ∀ w', Below w.heap.size w w' → ∀ b, S b → b < w'.heap.size := fun w' h b hb => Nat.lt_of_lt_of_le (hS b hb) h.size
  have HCN := Lib.hid (rnames_any t _ S _ (hlt _ hx.below) (hT.below hS hx.below) hn)
  obtain ⟨La, hLa⟩ : ∃ L, L = nmL (flatF t 0) := ⟨_, rfl⟩
  obtain ⟨Lb, hLb⟩ : ∃ L, L = qNames (partsL (flatF t 0)) := ⟨_, rfl⟩
  obtain ⟨Lo, hLo⟩ : ∃ L, L = freeR t [] [] := ⟨_, rfl⟩
  have hR : rBad t = (!La.all vld || badB Lo [] Lb) := by rw [hLa, hLb, hLo]; rfl
  obtain ⟨R, hRR⟩ : ∃ R, R = rBad t := ⟨_, rfl⟩
  rw [← hRR] at hR ⊢
  obtain ⟨N, hN⟩ : ∃ N, N = La.length := ⟨_, rfl⟩
  have hN1 : N ≤ 100000 := by
    have := nmL_len (flatF t 0) (flatF t 0).length
    rw [List.take_length, flatF_len, ← hLa] at this
    rw [hN]; omega
  rw [← hLa, ← hN] at HCN
  rw [← hLa] at hsz
  obtain ⟨NB, hNB⟩ : ∃ n, n = Lb.length := ⟨_, rfl⟩
  obtain ⟨NO, hNO⟩ : ∃ n, n = Lo.length := ⟨_, rfl⟩
  rw [← hLb, ← hNB] at hbl
  rw [← hLo, ← hNO] at hfl
  have HB := Lib.hid (show ∀ w', Below w.heap.size w w' → Calls Try.prog 46 #[.agg #[.int .i64 k, .bool neg, .slice A1 n1 c1, .string nm, .int .i64 ex, .int .i64 rl, .bool tr, .bool al, .slice A2 n2 c2]] w' fun e w2 => ∃ A c, e = .returned (.slice A NB c) ∧ StrsAt w2 (fun b => b < w2.heap.size) (.slice A NB c) Lb ∧ Below w'.heap.size w' w2 from fun w' hb => (bound_ref t _ S w' (hlt w' hb) (hT.below hS hb) hn).mono fun e w2 hp => by
    rw [← hLb] at hp
    obtain ⟨v, rfl, ho, hb2⟩ := hp
    have hs := StrsAt.more (StrsAt.of_own ho (by omega)) (fun b h => h.2)
    obtain ⟨A, c, rfl⟩ := hs.form
    rw [← hNB] at hs ⊢
    exact ⟨A, c, rfl, hs, hb2⟩)
  have HF := Lib.hid (show ∀ w', Below w.heap.size w w' → Calls Try.prog 47 #[.agg #[.int .i64 k, .bool neg, .slice A1 n1 c1, .string nm, .int .i64 ex, .int .i64 rl, .bool tr, .bool al, .slice A2 n2 c2]] w' fun e w2 => ∃ A c, e = .returned (.slice A NO c) ∧ StrsAt w2 (fun b => b < w2.heap.size) (.slice A NO c) Lo ∧ Below w'.heap.size w' w2 from fun w' hb => (rfree_any t _ S w' (hlt w' hb) (hT.below hS hb) (by omega)).mono fun e w2 hp => by
    rw [← hLo] at hp
    obtain ⟨v, rfl, ho, hb2⟩ := hp
    have hs := StrsAt.more (StrsAt.of_own ho (by omega)) (fun b h => h.2)
    obtain ⟨A, c, rfl⟩ := hs.form
    rw [← hNO] at hs ⊢
    exact ⟨A, c, rfl, hs, hb2⟩)
  have HN := Lib.hid hN
  have HNB := Lib.hid hNB
  have HNO := Lib.hid hNO
  have HR := Lib.hid hR
  have HSZ := Lib.hid hsz
  have hstep := Lib.hid (show ∀ wc wn, Below w.heap.size w wc → Below wc.heap.size wc wn → Below w.heap.size w wn from fun wc wn h1 h2 => h1.trans (h2.mono h1.size))
  clear hx hT hLa hLb hLo hR hRR hN hNB hNO hS hn hsz hlt
  go_enter Try.func26, Try.ntmps26
  go_wp2_with (go_at_call 27; refine HCN.out.mono ?_; intro e w1 hp; obtain ⟨v1, rfl, hoA, hb1⟩ := hp; obtain ⟨r1, q1, rfl⟩ := row_form (by omega) hoA; have HOA := Lib.hid hoA; have hw1 := hstep.out _ _ HX.out.below hb1; have HX1 := Lib.hid (HX.out.step hb1); clear hoA hb1)
  have HX0 := HX1
  go_loopw [12] (fun a_ wr => ∃ (i : Nat), i ≤ N ∧ a_ = .int .i64 i ∧ Below w1.heap.size w1 wr ∧ Hid (R = (!(La.drop i).all vld || badB Lo [] Lb))) (fun a_ _ => N - (intOf a_).toNat)
  case atStart => exact ⟨0, Nat.zero_le _, rfl, Below.refl _ _, Lib.hid (by simpa using HR.out)⟩
  case round =>
    obtain ⟨i, hi, rfl, hbr, hr⟩ := hrel
    by_cases hlt : i < N
    · obtain ⟨g, c, nm1, hv, hnmL, hcell⟩ := str_at HOA.out HN.out (Owns.of_below hbr (fun _ => False)) (fun b h => h.elim) i hlt
      injection hv with hv1 hv2 hv3
      subst hv1; subst hv3
      have hnsz := HSZ.out nm1 (List.mem_of_getElem? hnmL)
      have hr2 := hr.out
      rw [all_take_step vld hnmL] at hr2
      obtain ⟨z, hz⟩ : ∃ z, z = vld nm1 := ⟨_, rfl⟩
      rw [← hz] at hr2
      have HV := Lib.hid (show Calls Try.prog 45 #[.string nm1] wr fun e w' => e = .returned (.bool z) ∧ Below wr.heap.size wr w' from by rw [hz]; exact rvalid_any nm1 wr hnsz)
      have HR2 := Lib.hid hr2
      have HBR := Lib.hid hbr
      clear hr2 hz hnmL hr hbr
      cases z
      · obtain rfl : R = true := by rw [HR2.out]; simp
        go_wp2_with (go_at_call 45; refine HV.out.mono ?_; rintro e w2 ⟨rfl, hb2⟩; have HB2 := Lib.hid hb2; clear hb2)
        go_ret
        exact ⟨rfl, hstep.out _ _ hw1 (HBR.out.trans (HB2.out.mono HBR.out.size))⟩
      · go_wp2_with (go_at_call 45; refine HV.out.mono ?_; rintro e w2 ⟨rfl, hb2⟩; have HB2 := Lib.hid hb2; clear hb2)
        refine ⟨⟨i + 1, by omega, rfl, HBR.out.trans (HB2.out.mono HBR.out.size), Lib.hid (by simpa using HR2.out)⟩, ?_⟩
        show N - ((i : Int) + 1).toNat < N - (i : Int).toNat
        omega
    · have hR2 : R = badB Lo (Lb.take 0) (Lb.drop 0) := by
        have h1 := hr.out
        rw [List.drop_of_length_le (by have := HN.out; omega)] at h1
        simpa using h1
      have HR2 := Lib.hid hR2
      have HX2 := Lib.hid (HX1.out.step hbr)
      obtain ⟨x0, x1, x2, x3, x4, x5, x6, x7, x8⟩ := HX2.out.c9
      have hwr : Below w.heap.size w wr := HX2.out.below
      clear hr hR2 hbr
      have hxd : Box w wr.drew w.heap.size #[.int .i64 k, .bool neg, .slice A1 n1 c1, .string nm, .int .i64 ex, .int .i64 rl, .bool tr, .bool al, .slice A2 n2 c2] TT := ⟨HX2.out.below.drew, HX2.out.cells⟩
      have HXD := Lib.hid hxd
      have hwd : Below w.heap.size w wr.drew := hxd.below
      clear hxd
      go_wp2
      go_region_held3 (fun w' => w'.cell? ⟨w.heap.size, 0, none⟩ = some (.int .i64 k) ∧ w'.cell? ⟨w.heap.size, 1, none⟩ = some (.bool neg) ∧ w'.cell? ⟨w.heap.size, 2, none⟩ = some (.slice A1 n1 c1) ∧ w'.cell? ⟨w.heap.size, 3, none⟩ = some (.string nm) ∧ w'.cell? ⟨w.heap.size, 4, none⟩ = some (.int .i64 ex) ∧ w'.cell? ⟨w.heap.size, 5, none⟩ = some (.int .i64 rl) ∧ w'.cell? ⟨w.heap.size, 6, none⟩ = some (.bool tr) ∧ w'.cell? ⟨w.heap.size, 7, none⟩ = some (.bool al) ∧ w'.cell? ⟨w.heap.size, 8, none⟩ = some (.slice A2 n2 c2)) (go_keep)
        (first
          | (go_at_call 46; (with_reducible refine (HB.out _ (by assumption)).mono ?_); intro e wA hq; obtain ⟨aA, mA, rfl, hsA, hlA⟩ := hq; have hbA : Below w.heap.size w wA := hstep.out _ _ (by assumption) hlA; have HXA := Lib.hid (HXD.out.step hlA); have HSA := Lib.hid hsA; have HLA := Lib.hid hlA; clear hsA hlA; obtain ⟨pA0, pA1, pA2, pA3, pA4, pA5, pA6, pA7, pA8⟩ := HXA.out.c9)
          | (go_at_call 47; (with_reducible refine (HF.out _ (by assumption)).mono ?_); intro e wB hq; obtain ⟨aB, mB, rfl, hsB, hlB⟩ := hq; have hbB : Below w.heap.size w wB := hstep.out _ _ (by assumption) hlB; have HSB := Lib.hid hsB; have HLB := Lib.hid hlB; clear hsB hlB; obtain ⟨pB0, pB1, pB2, pB3, pB4, pB5, pB6, pB7, pB8⟩ := (HXA.out.step HLB.out).c9))
      have hSA : StrsAt wB (fun b => b < wB.heap.size) (.slice aA NB mA) Lb := (HSA.out.below (fun b h => h) HLB.out).more (fun b h => Nat.lt_of_lt_of_le h HLB.out.size)
      have HSA2 := Lib.hid hSA
      have HBB := Lib.hid hbB
      clear hSA HSA hbA HXA HLB hbB hwd hwr
      go_wp2
      go_loopw [28] (fun a_ wr => ∃ (j : Nat), j ≤ NB ∧ a_ = .int .i64 j ∧ Below wB.heap.size wB wr ∧ Hid (R = badB Lo (Lb.take j) (Lb.drop j))) (fun a_ _ => NB - (intOf a_).toNat)
      case atStart => exact ⟨0, Nat.zero_le _, rfl, Below.refl _ _, HR2⟩
      case round =>
        obtain ⟨j, hj, rfl, hbr, hr⟩ := hrel
        by_cases hlt2 : j < NB
        · have hA3 : StrsAt wr (fun b => b < wB.heap.size) (.slice aA NB mA) Lb := HSA2.out.below (fun b h => h) hbr
          have hB3 : StrsAt wr (fun b => b < wB.heap.size) (.slice aB NO mB) Lo := HSB.out.below (fun b h => h) hbr
          obtain ⟨b, o, rfl, hb, hc⟩ := hA3.at_ HNB.out (by omega)
          obtain ⟨x, hx⟩ : ∃ x, Lb[j]? = some x := ⟨_, List.getElem?_eq_getElem (by have := HNB.out; omega)⟩
          have g1 := hc j x hx
          have hS3 : ∀ b, b < wB.heap.size → b < wr.heap.size := fun b h => Nat.lt_of_lt_of_le h hbr.size
          obtain ⟨z1, hz1⟩ : ∃ z, z = decide (x ∈ Lb.take j) := ⟨_, rfl⟩
          obtain ⟨z2, hz2⟩ : ∃ z, z = decide (x ∈ Lo) := ⟨_, rfl⟩
          have hq1 := has_quiet (StrsAt.take hA3 HNB.out (Nat.le_of_lt hlt2)) hS3 x z1 hz1
          have hq2 := has_quiet hB3 hS3 x z2 hz2
          have hr2 := hr.out
          rw [badB_drop hx, ← hz1, ← hz2] at hr2
          unfold HasQ at hq1 hq2
          have HQ1 := Lib.hid hq1
          have HQ2 := Lib.hid hq2
          have HR3 := Lib.hid hr2
          have HBR := Lib.hid hbr
          have rg1 := fun d os => cell_regrown g1 d os
          have hcap : NB ≤ mA := by
            obtain ⟨A', c', e, hc', _⟩ := hA3.1
            injection e with _ e2 e3
            omega
          have hj1 : (0 : Int) ≤ j ∧ (j : Int) < NB ∧ (j : Int) ≤ mA := by omega
          clear hA3 hB3 hc hb hx hS3 hz1 hz2 hq1 hq2 hr2 hr hbr
          cases z1
          · cases z2
            · go_wp2_with fail
              refine wp_region_quiet_below (by kernel_rfl) (by kernel_rfl) ?_
              (repeat (quiet_step (first | (with_reducible exact Calls.regrown_of (HQ1.out _ _)) | (with_reducible exact Calls.regrown_of (HQ2.out _ _)))))
              refine wpQuiet_nil ?_
              rintro _ ⟨⟨d, os⟩, rfl⟩
              go_wp2
              refine ⟨⟨j + 1, by omega, rfl, HBR.out.trans ((below_regrown _ _ _).mono HBR.out.size), Lib.hid (by simpa using HR3.out)⟩, ?_⟩
              show NB - ((j : Int) + 1).toNat < NB - (j : Int).toNat
              omega
            · obtain rfl : R = true := by rw [HR3.out]; simp
              go_wp2_with fail
              refine wp_region_quiet_below (by kernel_rfl) (by kernel_rfl) ?_
              (repeat (quiet_step (first | (with_reducible exact Calls.regrown_of (HQ1.out _ _)) | (with_reducible exact Calls.regrown_of (HQ2.out _ _)))))
              refine wpQuiet_nil ?_
              rintro _ ⟨⟨d, os⟩, rfl⟩
              go_wp2
              go_ret
              exact ⟨rfl, HBB.out.trans ((HBR.out.trans ((below_regrown _ _ _).mono HBR.out.size)).mono HBB.out.size)⟩
          · obtain rfl : R = true := by rw [HR3.out]; simp
            go_wp2_with fail
            refine wp_region_quiet_below (by kernel_rfl) (by kernel_rfl) ?_
            (repeat (quiet_step (first | (with_reducible exact Calls.regrown_of (HQ1.out _ _)) | (with_reducible exact Calls.regrown_of (HQ2.out _ _)))))
            refine wpQuiet_nil ?_
            rintro _ ⟨⟨d, os⟩, rfl⟩
            go_wp2
            go_ret
            exact ⟨rfl, HBB.out.trans ((HBR.out.trans ((below_regrown _ _ _).mono HBR.out.size)).mono HBB.out.size)⟩
        · obtain rfl : R = false := by
            rw [hr.out, List.drop_of_length_le (by have := HNB.out; omega)]; rfl
          go_wp2
          go_ret
          exact ⟨rfl, HBB.out.trans (hbr.mono HBB.out.size)⟩
end Ch
end Go.Proofs.Yteneobpacobpdaa
