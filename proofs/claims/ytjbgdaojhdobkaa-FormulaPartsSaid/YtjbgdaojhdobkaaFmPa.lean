/-
  The reference's Parts and Bound.
-/
import Derived.Test.YtjbgdaojhdobkaaFmZ
import Derived.Test.YtjbgdaojhdobkaaFmL
import Derived.Test.YtjbgdaojhdobkaaOpn
namespace Go.Proofs.Ytjbgdaojhdobkaa
open Go.RowKit
set_option linter.unusedSimpArgs false
set_option linter.unusedVariables false
namespace Fm
attribute [local go_sem] run_store

def partsL (L : List (Tr × Int)) : List (Tr × Int) := L.filter fun p => !termK p.1.h.k
def PartsPost (L : List (Tr × Int)) (S : Nat → Prop) (w : World) (e : Ending) (w' : World) : Prop :=
  ∃ v1 v2 xs, e = .returned (.tuple #[v1, v2]) ∧ w'.ownsRow w.heap.size TT 9 v1 L.length xs ∧ TrsC w' S (L.map (·.1)) xs ∧ w'.ownsRow w.heap.size 3 1 v2 L.length (depC L) ∧ Below w.heap.size w w'
/-- the two rows so far, their blocks from B on -/
def PRel (L : List (Tr × Int)) (S : Nat → Prop) (B : Nat) (v1 v2 : Value) (wr : World) : Prop :=
  ∃ xs, wr.ownsRow B TT 9 v1 L.length xs ∧ TrsC wr S (L.map (·.1)) xs ∧ wr.ownsRow B 3 1 v2 L.length (depC L)
/-- element i of a row of trees, its cells in a later world -/
theorem row_tree {w1 wr : World} {B g n c : Nat} {S : Nat → Prop} {ys : List Value} {ts : List Tr} (ho : w1.ownsRow B TT 9 (.slice (some ⟨g, 0, none⟩) n c) n ys) (ht : TrsC w1 S ts ys) (hn : n = ts.length) (hb : Below w1.heap.size w1 wr) (i : Nat) (hi : i < n) :
    ∃ td A1 n1 c1 A2 n2 c2 k neg nm ex rl tr al, ts[i]? = some td ∧ TreeAt w1 S td [.int .i64 k, .bool neg, .slice A1 n1 c1, .string nm, .int .i64 ex, .int .i64 rl, .bool tr, .bool al, .slice A2 n2 c2] ∧ td.h.k = k ∧ td.h.name = nm ∧
      wr.cell? ⟨g, i * 9, none⟩ = some (.int .i64 k) ∧ wr.cell? ⟨g, i * 9 + 1, none⟩ = some (.bool neg) ∧ wr.cell? ⟨g, i * 9 + 2, none⟩ = some (.slice A1 n1 c1) ∧
      wr.cell? ⟨g, i * 9 + 3, none⟩ = some (.string nm) ∧ wr.cell? ⟨g, i * 9 + 4, none⟩ = some (.int .i64 ex) ∧ wr.cell? ⟨g, i * 9 + 5, none⟩ = some (.int .i64 rl) ∧
      wr.cell? ⟨g, i * 9 + 6, none⟩ = some (.bool tr) ∧ wr.cell? ⟨g, i * 9 + 7, none⟩ = some (.bool al) ∧ wr.cell? ⟨g, i * 9 + 8, none⟩ = some (.slice A2 n2 c2) := by
  obtain ⟨cs, h1, h2⟩ := ht.get i (by omega)
  obtain ⟨va, vk, ys', hcs, _⟩ := h1.cells
  obtain ⟨A1, n1, c1, A2, n2, c2, k, neg, nm, ex, rl, tr, al, rfl⟩ := h1.nine
  simp only [hdC, List.cons.injEq, and_true] at hcs
  have hg : g < w1.heap.size := (ho.lt g rfl).2
  have hc : ∀ j u, [Value.int .i64 k, .bool neg, .slice A1 n1 c1, .string nm, .int .i64 ex, .int .i64 rl, .bool tr, .bool al, .slice A2 n2 c2][j]? = some u → wr.cell? ⟨g, i * 9 + j, none⟩ = some u := fun j u hj => by
    have h3 := ho.cells (g := g) rfl _ _ (h2 j u hj)
    have e : (⟨g, 0, none⟩ : Addr).add (i * 9 + j) = ⟨g, i * 9 + j, none⟩ := by
      unfold Addr.add; split
      · rename_i h5; simp [h5]
      · simp
    rw [e] at h3
    exact (hb.cell (p := ⟨g, i * 9 + j, none⟩) hg).trans h3
  refine ⟨_, A1, n1, c1, A2, n2, c2, k, neg, nm, ex, rl, tr, al, List.getElem?_eq_getElem (by omega), h1, ?_, ?_, hc 0 _ rfl, hc 1 _ rfl, hc 2 _ rfl, hc 3 _ rfl, hc 4 _ rfl, hc 5 _ rfl, hc 6 _ rfl, hc 7 _ rfl, hc 8 _ rfl⟩
  · have := hcs.1; injection this with _ h; exact h.symm
  · have := hcs.2.2.2.1; injection this with h; exact h.symm
theorem row_form {w : World} {B n size : Nat} {e : TypeId} {v : Value} {xs : List Value} (hsz : 0 < size) (h : w.ownsRow B e size v n xs) : ∃ A c, v = .slice A n c := by
  rcases h.2 with ⟨rfl, h0⟩ | ⟨g, cap, cur, rfl, _⟩
  · have : n = 0 := by
      have h1 := h.1; rw [h0] at h1; simp at h1
      rcases h1 with h1 | h1 <;> omega
    subst this; exact ⟨_, _, rfl⟩
  · exact ⟨_, _, rfl⟩
theorem partsL_take {L : List (Tr × Int)} {i : Nat} {p : Tr × Int} (h : L[i]? = some p) : partsL (L.take (i + 1)) = partsL (L.take i) ++ (if termK p.1.h.k then [] else [p]) := by
  obtain ⟨hi, rfl⟩ := List.getElem?_eq_some_iff.1 h
  rw [List.take_succ_eq_append_getElem hi]
  unfold partsL
  rw [List.filter_append]
  cases hk : termK L[i].1.h.k <;> simp [hk]
theorem partsL_len (L : List (Tr × Int)) (i : Nat) : (partsL (L.take i)).length ≤ L.length := by
  unfold partsL
  have := List.length_filter_le (fun p : Tr × Int => !termK p.1.h.k) (L.take i)
  have : (L.take i).length ≤ L.length := by rw [List.length_take]; omega
  omega
set_option maxRecDepth 100000 in
set_option maxHeartbeats 8000000 in
theorem parts_ref (t : Tr) (cs : List Value) (S : Nat → Prop) (w : World) (hS : ∀ b, S b → b < w.heap.size) (hT : TreeAt w S t cs) (hn : nn t ≤ 100000) :
    Calls Try.prog 36 #[.agg cs.toArray] w (PartsPost (partsL (flatF t 0)) S w) := by
  obtain ⟨A1, n1, c1, A2, n2, c2, k, neg, nm, ex, rl, tr, al, rfl⟩ := hT.nine
  have hx := Box.new w #[.int .i64 k, .bool neg, .slice A1 n1 c1, .string nm, .int .i64 ex, .int .i64 rl, .bool tr, .bool al, .slice A2 n2 c2] TT
  have HX := Lib.hid hx
  have HC := Lib.hid (list_any t _ S 0 _ (fun b hb => Nat.lt_of_lt_of_le (hS b hb) hx.below.size) (hT.below hS hx.below) hn (by omega) (by omega))
  obtain ⟨L, hL⟩ : ∃ L, L = flatF t 0 := ⟨_, rfl⟩
  obtain ⟨N, hN⟩ : ∃ N, N = L.length := ⟨_, rfl⟩
  have hN1 : N ≤ 100000 := by rw [hN, hL, flatF_len]; exact hn
  rw [← hL] at HC ⊢
  have HN := Lib.hid hN
  have HS := Lib.hid hS
  clear hx hT hL hN hS hn
  obtain ⟨i0, hi0, hz0, hz1, hz2⟩ := info_parts infoTree
  obtain ⟨j0, hj0, hy0, hy1, hy2⟩ := info_parts infoInt
  go_enter Try.func36, Try.ntmps36
  go_wp2_with (go_at_call 52; refine HC.out.mono ?_; intro e w1 hp; obtain ⟨g1, d1, g2, d2, ys, rfl, hoA, htA, hoB, hb1⟩ := hp.named N HN.out; clear hp; have HOA := Lib.hid hoA; have HTA := Lib.hid htA; have HOB := Lib.hid hoB; have HB1 := Lib.hid hb1; clear hoA htA hoB hb1)
  have hs1 : w.heap.size ≤ w1.heap.size := Nat.le_trans HX.out.below.size HB1.out.size
  go_loopw [6, 7, 16] (fun v6 v7 a_ wr => ∃ (i : Nat), i ≤ N ∧ a_ = .int .i64 i ∧ Below w1.heap.size w1 wr ∧ PRel (partsL (L.take i)) S w1.heap.size v6 v7 wr) (fun _ _ a_ _ => N - (intOf a_).toNat)
  case atStart => exact ⟨0, Nat.zero_le _, rfl, Below.refl _ _, [], ⟨rfl, .inl ⟨rfl, rfl⟩⟩, TrsC.nil, ⟨rfl, .inl ⟨rfl, rfl⟩⟩⟩
  case round =>
    obtain ⟨i, hi, rfl, hbr, xs, ho1, ht1, ho2⟩ := hrel
    by_cases hlt : i < N
    · obtain ⟨td, B1, m1, e1, B2, m2, e2, k', neg', nm', ex', rl', tr', al', htd, hTd, hk', hnm', g0, g1', g2', g3, g4, g5, g6, g7, g8⟩ := row_tree HOA.out HTA.out (by rw [List.length_map]; exact HN.out) hbr i hlt
      obtain ⟨p, hp⟩ : ∃ p, L[i]? = some p := ⟨_, List.getElem?_eq_getElem (by have := HN.out; omega)⟩
      obtain rfl : p.1 = td := by rw [List.getElem?_map, hp] at htd; simpa using htd
      have gd : wr.cell? ⟨g2, i, none⟩ = some (.int .i64 p.2) := by
        have h3 := HOB.out.cells (g := g2) rfl i (.int .i64 p.2) (by unfold depC; rw [List.getElem?_map, hp]; rfl)
        have e : (⟨g2, 0, none⟩ : Addr).add i = ⟨g2, i, none⟩ := by
          unfold Addr.add; split
          · rename_i h5; simp [h5]
          · simp
        rw [e] at h3
        exact (hbr.cell (p := ⟨g2, i, none⟩) (HOB.out.lt g2 rfl).2).trans h3
      have hstep := partsL_take hp
      have hln := partsL_len L i
      obtain ⟨M, hM⟩ : ∃ M, M = (partsL (L.take i)).length := ⟨_, rfl⟩
      rw [← hM] at ho1 ho2 hln
      obtain ⟨b, hb⟩ : ∃ b, b = termK k' := ⟨_, rfl⟩
      rw [hk', ← hb] at hstep
      have HIT := Lib.hid (isTerm_any k' wr b (by rw [hb]; rfl))
      have HO1 := Lib.hid ho1
      have HO2 := Lib.hid ho2
      have HT1 := Lib.hid ht1
      have HST := Lib.hid hstep
      have HM := Lib.hid hM
      have HBR := Lib.hid hbr
      have HTD := Lib.hid hTd
      have hbs := hbr.size
      have hMN : M ≤ N := by have := HN.out; omega
      clear ho1 ho2 ht1 hstep hM hbr hTd hb hk' hnm' htd hp hln
      cases b
      · obtain ⟨r6, q6, rfl⟩ := row_form (by omega) HO1.out
        obtain ⟨r7, q7, rfl⟩ := row_form (by omega) HO2.out
        go_wp2_with (first
          | (go_at_call 55; refine HIT.out.mono ?_; rintro e w9 ⟨rfl, hw9⟩; obtain rfl : wr = w9 := hw9.symm)
          | (at_builtin; refine wpList_append_lies _ rfl (.tmp 26) (.tmp 31) 27 rfl w1.heap.size TT i0 _ 9 104 Try.underlying27 hi0 hz0 hz1 hz2 rfl (by decide) (.slice r6 M q6) M xs rfl (HO1.out.alloc _) ⟨wr.heap.size, 0, none⟩ 1 1 [.int .i64 k', .bool neg', .slice B1 m1 e1, .string nm', .int .i64 ex', .int .i64 rl', .bool tr', .bool al', .slice B2 m2 e2] rfl rfl (cells_new wr #[.int .i64 k', .bool neg', .slice B1 m1 e1, .string nm', .int .i64 ex', .int .i64 rl', .bool tr', .bool al', .slice B2 m2 e2] _ _ rfl) (by intro u hu; simp only [List.mem_cons, List.not_mem_nil, or_false] at hu; rcases hu with rfl | rfl | rfl | rfl | rfl | rfl | rfl | rfl | rfl <;> rfl) (by omega) (by unfold maxLen; omega) (by omega) (by simp; omega) _ rfl ?_; intro g3 cap3 w3 ho3 hgrow3 hat3 hlt3; have HO3 := Lib.hid ho3; have HG3 := Lib.hid hgrow3; clear ho3 hat3; have hg3s := hgrow3.size; clear hgrow3; have HO23 := Lib.hid ((HO2.out.alloc _).kept HG3.out (own_ne HO1.out HO2.out (show TT ≠ 3 from by decide))); have HB3 : Hid (Below w1.heap.size w1 w3) := Lib.hid ((HBR.out.alloc HBR.out.size _).grown HG3.out (by simp; omega) (fun k hk => (HO1.out.lt k hk).1)); have gd3 : w3.cell? ⟨g2, i, none⟩ = some (.int .i64 p.2) := by first | (have h3 := (HB3.out.cell (p := ⟨g2, i, none⟩) (HOB.out.lt g2 rfl).2); rw [h3, ← (HBR.out.cell (p := ⟨g2, i, none⟩) (HOB.out.lt g2 rfl).2)]; exact gd))
          | (at_builtin; refine wpList_append_lies _ rfl (.tmp 33) (.tmp 38) 60 rfl w1.heap.size 3 j0 _ 1 8 Try.underlying60 hj0 hy0 hy1 hy2 rfl (by decide) (.slice r7 M q7) M _ rfl (HO23.out.alloc _) ⟨w3.heap.size, 0, none⟩ 1 1 [.int .i64 p.2] rfl rfl (cell_one_new _ _ _) (by intro u hu; simp at hu; rw [hu]; rfl) (by omega) (by unfold maxLen; omega) (by omega) (by have := HB3.out.size; simp; omega) _ rfl ?_; intro g4 cap4 w4 ho4 hgrow4 hat4 hlt4; have HO4 := Lib.hid ho4; have HG4 := Lib.hid hgrow4; clear ho4 hgrow4 hat4))
        go_roundw
        case rel =>
          have hb34 : Below w1.heap.size w1 w4 := (HB3.out.alloc HB3.out.size _).grown HG4.out (by have := HB3.out.size; simp; omega) (fun k hk => (HO23.out.lt k hk).1)
          refine ⟨i + 1, by omega, by go_num, hb34, ?_⟩
          rw [HST.out]
          simp only [Bool.false_eq_true, if_false]
          have el1 : (partsL (L.take i) ++ [p]).length = M + 1 := by rw [List.length_append, ← HM.out]; rfl
          have el2 : depC (partsL (L.take i) ++ [p]) = depC (partsL (L.take i)) ++ [.int .i64 p.2] := by unfold depC; rw [List.map_append]; rfl
          have hSw : ∀ b, S b → b < w1.heap.size := fun b hb => Nat.lt_of_lt_of_le (HS.out b hb) hs1
          refine ⟨xs ++ [.int .i64 k', .bool neg', .slice B1 m1 e1, .string nm', .int .i64 ex', .int .i64 rl', .bool tr', .bool al', .slice B2 m2 e2], ?_, ?_, ?_⟩
          · rw [el1]
            exact (HO3.out.alloc _).kept HG4.out (own_ne HO23.out HO3.out (show 3 ≠ TT from by decide))
          · rw [List.map_append]
            exact TrsC.append (TrsC.keep (fun q hq => ((hb34.cell (hSw _ hq)).trans (HBR.out.cell (hSw _ hq)).symm)) _ _ HT1.out) (TrsC.one (HTD.out.below hSw hb34))
          · rw [el1, el2]
            exact HO4.out
        case measure => simp [intOf]; omega
      · go_wp2_with (go_at_call 55; refine HIT.out.mono ?_; rintro e w9 ⟨rfl, hw9⟩; obtain rfl : wr = w9 := hw9.symm)
        go_roundw
        case rel =>
          refine ⟨i + 1, by omega, by go_num, HBR.out, ?_⟩
          rw [HST.out]
          simp only [if_true, List.append_nil]
          exact ⟨xs, by rw [← HM.out]; exact HO1.out, HT1.out, by rw [← HM.out]; exact HO2.out⟩
        case measure => simp [intOf]; omega
    · have HP := Lib.hid (show PRel (partsL L) S w1.heap.size u6 u7 wr by
        have h1 : L.take i = L := List.take_of_length_le (by have := HN.out; omega)
        rw [h1] at ho1 ht1 ho2
        exact ⟨xs, ho1, ht1, ho2⟩)
      clear ho1 ht1 ho2
      go_wp2
      go_ret2
      obtain ⟨xs, ho1, ht1, ho2⟩ := HP.out
      exact ⟨u6, u7, xs, rfl, own_mono ho1 hs1, ht1, own_mono ho2 hs1, HX.out.below.trans ((HB1.out.trans (hbr.mono HB1.out.size)).mono HX.out.below.size)⟩

/-- the quantifiers among these trees -/
def qNames (L : List (Tr × Int)) : List ByteArray := (L.filter fun p => decide (p.1.h.k = 15)).map fun p => p.1.h.name
theorem qNames_take {L : List (Tr × Int)} {i : Nat} {p : Tr × Int} (h : L[i]? = some p) : qNames (L.take (i + 1)) = qNames (L.take i) ++ (if p.1.h.k = 15 then [p.1.h.name] else []) := by
  obtain ⟨hi, rfl⟩ := List.getElem?_eq_some_iff.1 h
  rw [List.take_succ_eq_append_getElem hi]
  unfold qNames
  rw [List.filter_append, List.map_append]
  by_cases hk : L[i].1.h.k = 15 <;> simp [hk]
theorem qNames_len (L : List (Tr × Int)) (i : Nat) : (qNames (L.take i)).length ≤ L.length := by
  unfold qNames
  have := List.length_filter_le (fun p : Tr × Int => decide (p.1.h.k = 15)) (L.take i)
  have : (L.take i).length ≤ L.length := by rw [List.length_take]; omega
  rw [List.length_map]
  omega
set_option maxRecDepth 100000 in
set_option maxHeartbeats 8000000 in
theorem bound_ref (t : Tr) (cs : List Value) (S : Nat → Prop) (w : World) (hS : ∀ b, S b → b < w.heap.size) (hT : TreeAt w S t cs) (hn : nn t ≤ 100000) :
    Calls Try.prog 29 #[.agg cs.toArray] w fun e w' => ∃ v', e = .returned v' ∧ w'.ownsRow w.heap.size tStr 1 v' (qNames (partsL (flatF t 0))).length ((qNames (partsL (flatF t 0))).map Value.string) ∧ Below w.heap.size w w' := by
  obtain ⟨A1, n1, c1, A2, n2, c2, k, neg, nm, ex, rl, tr, al, rfl⟩ := hT.nine
  have hx := Box.new w #[.int .i64 k, .bool neg, .slice A1 n1 c1, .string nm, .int .i64 ex, .int .i64 rl, .bool tr, .bool al, .slice A2 n2 c2] TT
  have HX := Lib.hid hx
  have HC := Lib.hid (parts_ref t _ S _ (fun b hb => Nat.lt_of_lt_of_le (hS b hb) hx.below.size) (hT.below hS hx.below) hn)
  obtain ⟨L, hL⟩ : ∃ L, L = partsL (flatF t 0) := ⟨_, rfl⟩
  obtain ⟨N, hN⟩ : ∃ N, N = L.length := ⟨_, rfl⟩
  have hN1 : N ≤ 100000 := by
    have := partsL_len (flatF t 0) (flatF t 0).length
    rw [List.take_length, flatF_len] at this
    rw [hN, hL]; omega
  rw [← hL] at HC ⊢
  have HN := Lib.hid hN
  have HS := Lib.hid hS
  clear hx hT hL hN hS hn
  obtain ⟨i0, hi0, hz0, hz1, hz2⟩ := info_parts infoStr
  go_enter Try.func29, Try.ntmps29
  go_wp2_with (go_at_call 36; refine HC.out.mono ?_; intro e w1 hp; obtain ⟨v1, v2, ys, rfl, hoA, htA, _, hb1⟩ := hp; obtain ⟨r1, q1, rfl⟩ := row_form (by omega) hoA; rw [← HN.out] at hoA ⊢; have HOA := Lib.hid hoA; have HTA := Lib.hid htA; have HB1 := Lib.hid hb1; clear hoA htA hb1)
  have hs1 : w.heap.size ≤ w1.heap.size := Nat.le_trans HX.out.below.size HB1.out.size
  go_loopw [3, 14] (fun v3 a_ wr => ∃ (i : Nat), i ≤ N ∧ a_ = .int .i64 i ∧ Below w1.heap.size w1 wr ∧ Hid (wr.ownsRow w1.heap.size tStr 1 v3 (qNames (L.take i)).length ((qNames (L.take i)).map Value.string))) (fun _ a_ _ => N - (intOf a_).toNat)
  case atStart => exact ⟨0, Nat.zero_le _, rfl, Below.refl _ _, Lib.hid ⟨rfl, .inl ⟨rfl, rfl⟩⟩⟩
  case round =>
    obtain ⟨i, hi, rfl, hbr, ho⟩ := hrel
    by_cases hlt : i < N
    · obtain ⟨g1, cp1, hv, _, _⟩ := HOA.out.form (by omega)
      injection hv with hv1 hv2 hv3
      subst hv1; subst hv3
      obtain ⟨td, B1, m1, e1, B2, m2, e2, k', neg', nm', ex', rl', tr', al', htd, hTd, hk', hnm', g0, g1', g2', g3, g4, g5, g6, g7, g8⟩ := row_tree HOA.out HTA.out (by rw [List.length_map]; exact HN.out) hbr i hlt
      obtain ⟨p, hp⟩ : ∃ p, L[i]? = some p := ⟨_, List.getElem?_eq_getElem (by have := HN.out; omega)⟩
      obtain rfl : p.1 = td := by rw [List.getElem?_map, hp] at htd; simpa using htd
      have hstep := qNames_take hp
      have hln := qNames_len L i
      obtain ⟨M, hM⟩ : ∃ M, M = (qNames (L.take i)).length := ⟨_, rfl⟩
      have ho' := ho.out
      rw [← hM] at ho' hln
      rw [hk', hnm'] at hstep
      have HO1 := Lib.hid ho'
      have HST := Lib.hid hstep
      have HM := Lib.hid hM
      have HBR := Lib.hid hbr
      have hbs := hbr.size
      have hMN : M ≤ N := by have := HN.out; omega
      clear ho' ho hstep hM hbr hTd hk' hnm' htd hp hln
      by_cases h15 : k' = 15
      · subst h15
        obtain ⟨r3, q3, rfl⟩ := row_form (by omega) HO1.out
        go_wp2_with (first
          | (at_builtin; refine wpList_append_lies _ rfl (.tmp 23) (.tmp 29) 48 rfl w1.heap.size tStr i0 _ 1 16 Try.underlying48 hi0 hz0 hz1 hz2 rfl (by decide) (.slice r3 M q3) M _ rfl (HO1.out.alloc _) ⟨wr.heap.size, 0, none⟩ 1 1 [.string nm'] rfl rfl (cell_one_new _ _ _) (by intro u hu; simp at hu; rw [hu]; rfl) (by omega) (by unfold maxLen; omega) (by omega) (by simp; omega) _ rfl ?_; intro gg cap3 w3 ho3 hgrow3 hat3 hlt3; have HO3 := Lib.hid ho3; have HG3 := Lib.hid hgrow3; clear ho3 hat3 hgrow3))
        go_roundw
        case rel =>
          refine ⟨i + 1, by omega, by go_num, (HBR.out.alloc HBR.out.size _).grown HG3.out (by simp; omega) (fun k hk => (HO1.out.lt k hk).1), Lib.hid ?_⟩
          rw [HST.out]
          simp only [if_true]
          rw [show (qNames (L.take i) ++ [nm']).length = M + 1 by rw [List.length_append, ← HM.out]; rfl, List.map_append]
          exact HO3.out
        case measure => simp [intOf]; omega
      · have hk0 : (k' == 15) = false := by simpa using h15
        have HST2 := Lib.hid (show qNames (L.take (i + 1)) = qNames (L.take i) by rw [HST.out, if_neg h15, List.append_nil])
        clear h15 HST
        go_wp2
        go_roundw
        case rel => exact ⟨i + 1, by omega, by go_num, HBR.out, Lib.hid (by rw [HST2.out, ← HM.out]; exact HO1.out)⟩
        case measure => simp [intOf]; omega
    · have HP := Lib.hid (show wr.ownsRow w1.heap.size tStr 1 u3 (qNames L).length ((qNames L).map Value.string) by
        have h1 : L.take i = L := List.take_of_length_le (by have := HN.out; omega)
        have h2 := ho.out
        rw [h1] at h2
        exact h2)
      clear ho
      go_wp2
      go_ret
      exact ⟨u3, rfl, own_mono HP.out hs1, HX.out.below.trans ((HB1.out.trans (hbr.mono HB1.out.size)).mono HX.out.below.size)⟩
end Fm
end Go.Proofs.Ytjbgdaojhdobkaa
