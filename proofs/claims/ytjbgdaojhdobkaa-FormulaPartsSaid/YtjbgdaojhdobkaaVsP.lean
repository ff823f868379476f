/-
  The subformulas of a formula and those of its tree, in order.
-/
import Derived.Test.YtjbgdaojhdobkaaVsA
import Derived.Test.YtjbgdaojhdobkaaFmNa
import Derived.Test.YtjbgdaojhdobkaaFmPa
import Derived.Test.YtjbgdaojhdobkaaFmH
namespace Go.Proofs.Ytjbgdaojhdobkaa
open Go.RowKit Go.Sort
set_option linter.unusedSimpArgs false
set_option linter.unusedVariables false
namespace Vs
open Fm
attribute [local go_sem] run_store
def Par (L : List (Tr × Int)) (O : List (Int × Fo)) : Prop := L.length = O.length ∧ ∀ p ∈ L.zip O, RF p.1.1 p.2.2 ∧ Sm p.1.1 ∧ p.1.2 = p.2.1
theorem Par.nil : Par [] [] := ⟨rfl, fun p h => by cases h⟩
theorem Par.cons {t : Tr} {f : Fo} {d : Int} {L : List (Tr × Int)} {O : List (Int × Fo)} (h : RF t f) (hs : Sm t) (k : Par L O) : Par ((t, d) :: L) ((d, f) :: O) :=
  ⟨by simp [k.1], fun p hp => by
    rw [List.zip_cons_cons, List.mem_cons] at hp
    rcases hp with rfl | hp
    · exact ⟨h, hs, rfl⟩
    · exact k.2 p hp⟩
theorem Par.app {L L' : List (Tr × Int)} {O O' : List (Int × Fo)} (h : Par L O) (k : Par L' O') : Par (L ++ L') (O ++ O') :=
  ⟨by simp [h.1, k.1], fun p hp => by
    rw [List.zip_append h.1, List.mem_append] at hp
    rcases hp with hp | hp
    · exact h.2 p hp
    · exact k.2 p hp⟩
theorem Par.get {L : List (Tr × Int)} {O : List (Int × Fo)} (h : Par L O) {i : Nat} {p : Tr × Int} {q : Int × Fo} (hp : L[i]? = some p) (hq : O[i]? = some q) : RF p.1 q.2 ∧ Sm p.1 ∧ p.2 = q.1 := by
  have := List.mem_of_getElem? (l := L.zip O) (i := i) (a := (p, q)) (by rw [List.getElem?_zip_eq_some]; exact ⟨hp, hq⟩)
  exact h.2 _ this
theorem par_fo {t : Tr} {f : Fo} (h : RF t f) : Sm t → ∀ d, Par (partsL (flatF t d)) (flatO f d) := by
  induction h with
  | truth h hk => intro hs d; rw [partsF (.truth h hk)]; simp only; rw [flatL_nil]; exact Par.cons (.truth h hk) hs Par.nil
  | atom h a b p q hk hr ha hb => intro hs d; rw [partsF (.atom h a b p q hk hr ha hb)]; exact Par.cons (.atom h a b p q hk hr ha hb) hs Par.nil
  | not h a p hk ha ia => intro hs d; rw [partsF (.not h a p hk ha)]; simp only; rw [flatL_one]; have h2 := hs; unfold Sm at h2; exact Par.cons (.not h a p hk ha) hs (ia h2.2.2.1 _)
  | and h a b p q hk ha hb ia ib => intro hs d; rw [partsF (.and h a b p q hk ha hb)]; simp only; rw [flatL_two, partsL_append]; have h2 := hs; unfold Sm at h2; exact Par.cons (.and h a b p q hk ha hb) hs ((ia h2.2.2.1 _).app (ib h2.2.2.2.1 _))
  | or h a b p q hk ha hb ia ib => intro hs d; rw [partsF (.or h a b p q hk ha hb)]; simp only; rw [flatL_two, partsL_append]; have h2 := hs; unfold Sm at h2; exact Par.cons (.or h a b p q hk ha hb) hs ((ia h2.2.2.1 _).app (ib h2.2.2.2.1 _))
  | implies h a b p q hk ha hb ia ib => intro hs d; rw [partsF (.implies h a b p q hk ha hb)]; simp only; rw [flatL_two, partsL_append]; have h2 := hs; unfold Sm at h2; exact Par.cons (.implies h a b p q hk ha hb) hs ((ia h2.2.2.1 _).app (ib h2.2.2.2.1 _))
  | iff h a b p q hk ha hb ia ib => intro hs d; rw [partsF (.iff h a b p q hk ha hb)]; simp only; rw [flatL_two, partsL_append]; have h2 := hs; unfold Sm at h2; exact Par.cons (.iff h a b p q hk ha hb) hs ((ia h2.2.2.1 _).app (ib h2.2.2.2.1 _))
  | quant h a p hk ha ia => intro hs d; rw [partsF (.quant h a p hk ha)]; simp only; rw [flatL_one]; have h2 := hs; unfold Sm at h2; exact Par.cons (.quant h a p hk ha) hs (ia h2.2.2.1 _)

/-! ### counts -/
theorem tn_eq {t : Tr} {tm : Tm} (h : RT t tm) : tn tm = nn t := by
  induction h with
  | num h hk => unfold nn nnL; simp [tn]
  | name h hk => unfold nn nnL; simp [tn]
  | add h a b p q hk ha hb ia ib => unfold nn nnL nnL nnL tn; omega
  | sub h a b p q hk ha hb ia ib => unfold nn nnL nnL nnL tn; omega
  | mul h a b p q hk ha hb ia ib => unfold nn nnL nnL nnL tn; omega
  | neg h a p hk ha ia => unfold nn nnL nnL tn; omega
  | pow h a p hk he ha ia => unfold nn nnL nnL tn; omega
theorem fnn_eq {t : Tr} {f : Fo} (h : RF t f) : fnn f = nn t := by
  induction h with
  | truth h hk => unfold nn nnL; simp [fnn]
  | atom h a b p q hk hr ha hb => unfold nn nnL nnL nnL fnn; have := tn_eq ha; have := tn_eq hb; omega
  | not h a p hk ha ia => unfold nn nnL nnL fnn; omega
  | and h a b p q hk ha hb ia ib => unfold nn nnL nnL nnL fnn; omega
  | or h a b p q hk ha hb ia ib => unfold nn nnL nnL nnL fnn; omega
  | implies h a b p q hk ha hb ia ib => unfold nn nnL nnL nnL fnn; omega
  | iff h a b p q hk ha hb ia ib => unfold nn nnL nnL nnL fnn; omega
  | quant h a p hk ha ia => unfold nn nnL nnL fnn; omega
def atL (L : List (Tr × Int)) : Nat := (L.filter fun p => decide (p.1.h.k = 9)).length
theorem atL_append (a b : List (Tr × Int)) : atL (a ++ b) = atL a + atL b := by unfold atL; rw [List.filter_append, List.length_append]
theorem atL_cons (p : Tr × Int) (l : List (Tr × Int)) : atL (p :: l) = (if p.1.h.k = 9 then 1 else 0) + atL l := by
  unfold atL; rw [List.filter_cons]; by_cases h : p.1.h.k = 9 <;> simp [h]; omega
theorem atL_take {L : List (Tr × Int)} {i : Nat} {p : Tr × Int} (h : L[i]? = some p) : atL (L.take (i + 1)) = atL (L.take i) + (if p.1.h.k = 9 then 1 else 0) := by
  obtain ⟨hi, rfl⟩ := List.getElem?_eq_some_iff.1 h
  rw [List.take_succ_eq_append_getElem hi, atL_append, atL_cons]; rfl
theorem atL_len (L : List (Tr × Int)) (i : Nat) : atL (L.take i) ≤ L.length := by
  unfold atL
  have := List.length_filter_le (fun p : Tr × Int => decide (p.1.h.k = 9)) (L.take i)
  have : (L.take i).length ≤ L.length := by rw [List.length_take]; omega
  omega
theorem at_eq {t : Tr} {f : Fo} (h : RF t f) : ∀ d, atL (partsL (flatF t d)) = atomsF f := by
  induction h with
  | truth h hk => intro d; rw [partsF (.truth h hk)]; simp only; rw [atL_cons, if_neg (by show h.k ≠ 9; omega), flatL_nil]; rfl
  | atom h a b p q hk hr ha hb => intro d; rw [partsF (.atom h a b p q hk hr ha hb)]; simp only; rw [atL_cons, if_pos (show ((Tr.mk h [a, b], d) : Tr × Int).1.h.k = 9 from hk)]; rfl
  | not h a p hk ha ia => intro d; rw [partsF (.not h a p hk ha)]; simp only; rw [atL_cons, if_neg (by show h.k ≠ 9; omega), flatL_one, ia]; simp [atomsF]
  | and h a b p q hk ha hb ia ib => intro d; rw [partsF (.and h a b p q hk ha hb)]; simp only; rw [atL_cons, if_neg (by show h.k ≠ 9; omega), flatL_two, partsL_append, atL_append, ia, ib]; simp [atomsF]
  | or h a b p q hk ha hb ia ib => intro d; rw [partsF (.or h a b p q hk ha hb)]; simp only; rw [atL_cons, if_neg (by show h.k ≠ 9; omega), flatL_two, partsL_append, atL_append, ia, ib]; simp [atomsF]
  | implies h a b p q hk ha hb ia ib => intro d; rw [partsF (.implies h a b p q hk ha hb)]; simp only; rw [atL_cons, if_neg (by show h.k ≠ 9; omega), flatL_two, partsL_append, atL_append, ia, ib]; simp [atomsF]
  | iff h a b p q hk ha hb ia ib => intro d; rw [partsF (.iff h a b p q hk ha hb)]; simp only; rw [atL_cons, if_neg (by show h.k ≠ 9; omega), flatL_two, partsL_append, atL_append, ia, ib]; simp [atomsF]
  | quant h a p hk ha ia => intro d; rw [partsF (.quant h a p hk ha)]; simp only; rw [atL_cons, if_neg (by show h.k ≠ 9; omega), flatL_one, ia]; simp [atomsF]

set_option maxRecDepth 100000 in
set_option maxHeartbeats 8000000 in
theorem nodes_ref (t : Tr) (cs : List Value) (S : Nat → Prop) (w : World) (hS : ∀ b, S b → b < w.heap.size) (hT : TreeAt w S t cs) (hn : nn t ≤ 100000) :
    Calls Try.prog 39 #[.agg cs.toArray] w fun e w' => e = .returned (.int .i64 (nn t : Int)) ∧ Below w.heap.size w w' := by
  obtain ⟨A1, n1, c1, A2, n2, c2, k, neg, nm, ex, rl, tr, al, rfl⟩ := hT.nine
  have hx := Box.new w #[.int .i64 k, .bool neg, .slice A1 n1 c1, .string nm, .int .i64 ex, .int .i64 rl, .bool tr, .bool al, .slice A2 n2 c2] TT
  have HX := Lib.hid hx
  have HC := Lib.hid (list_any t _ S 0 _ (fun b hb => Nat.lt_of_lt_of_le (hS b hb) hx.below.size) (hT.below hS hx.below) hn (by omega) (by omega))
  obtain ⟨L, hL⟩ : ∃ L, L = flatF t 0 := ⟨_, rfl⟩
  obtain ⟨N, hN⟩ : ∃ N, N = L.length := ⟨_, rfl⟩
  have hN1 : N = nn t := by rw [hN, hL, flatF_len]
  rw [← hN1]
  rw [← hL] at HC
  have HN := Lib.hid hN
  clear hx hT hL hN hS hn hN1
  go_enter Try.func39, Try.ntmps39
  go_wp2_with (go_at_call 52; refine HC.out.mono ?_; intro e w1 hp; obtain ⟨g1, d1, g2, d2, ys, rfl, hoA, htA, hoB, hb1⟩ := hp.named N HN.out; clear hp; have HB1 := Lib.hid hb1; clear hoA htA hoB hb1)
  go_ret
  exact ⟨rfl, HX.out.below.trans (HB1.out.mono HX.out.below.size)⟩

set_option maxRecDepth 100000 in
set_option maxHeartbeats 8000000 in
theorem atoms_ref (t : Tr) (cs : List Value) (S : Nat → Prop) (w : World) (hS : ∀ b, S b → b < w.heap.size) (hT : TreeAt w S t cs) (hn : nn t ≤ 100000) :
    Calls Try.prog 38 #[.agg cs.toArray] w fun e w' => e = .returned (.int .i64 (atL (partsL (flatF t 0)) : Int)) ∧ Below w.heap.size w w' := by
  obtain ⟨A1, n1, c1, A2, n2, c2, k, neg, nm, ex, rl, tr, al, rfl⟩ := hT.nine
  have hx := Box.new w #[.int .i64 k, .bool neg, .slice A1 n1 c1, .string nm, .int .i64 ex, .int .i64 rl, .bool tr, .bool al, .slice A2 n2 c2] TT
  have HX := Lib.hid hx
  have HC := Lib.hid (parts_ref t _ S _ (fun b hb => Nat.lt_of_lt_of_le (hS b hb) hx.below.size) (hT.below hS hx.below) hn)
  obtain ⟨L, hL⟩ : ∃ L, L = partsL (flatF t 0) := ⟨_, rfl⟩
  obtain ⟨N, hN⟩ : ∃ N, N = L.length := ⟨_, rfl⟩
  have hN1 : N ≤ 100000 := by
    have := partsL_len (flatF t 0) (flatF t 0).length
    rw [List.take_length, flatF_len] at this
    rw [hN, hL]; omega
  rw [← hL] at HC ⊢
  have HN := Lib.hid hN
  clear hx hT hL hN hS hn
  go_enter Try.func38, Try.ntmps38
  go_wp2_with (go_at_call 36; refine HC.out.mono ?_; intro e w1 hp; obtain ⟨v1, v2, ys, rfl, hoA, htA, _, hb1⟩ := hp; obtain ⟨r1, q1, rfl⟩ := row_form (by omega) hoA; rw [← HN.out] at hoA ⊢; have HOA := Lib.hid hoA; have HTA := Lib.hid htA; have HB1 := Lib.hid hb1; clear hoA htA hb1)
  have hs1 : w.heap.size ≤ w1.heap.size := Nat.le_trans HX.out.below.size HB1.out.size
  go_loopw [3, 14] (fun v3 a_ wr => ∃ (i : Nat), i ≤ N ∧ a_ = .int .i64 i ∧ v3 = .int .i64 (atL (L.take i) : Int) ∧ Below w1.heap.size w1 wr) (fun _ a_ _ => N - (intOf a_).toNat)
  case atStart => exact ⟨0, Nat.zero_le _, rfl, rfl, Below.refl _ _⟩
  case round =>
    obtain ⟨i, hi, rfl, rfl, hbr⟩ := hrel
    by_cases hlt : i < N
    · obtain ⟨g1, cp1, hv, _, _⟩ := HOA.out.form (by omega)
      injection hv with hv1 hv2 hv3
      subst hv1; subst hv3
      obtain ⟨td, B1, m1, e1, B2, m2, e2, k', neg', nm', ex', rl', tr', al', htd, hTd, hk', hnm', g0, g1', g2', g3, g4, g5, g6, g7, g8⟩ := row_tree HOA.out HTA.out (by rw [List.length_map]; exact HN.out) hbr i hlt
      obtain ⟨p, hp⟩ : ∃ p, L[i]? = some p := ⟨_, List.getElem?_eq_getElem (by have := HN.out; omega)⟩
      obtain rfl : p.1 = td := by rw [List.getElem?_map, hp] at htd; simpa using htd
      have hstep := atL_take hp
      have hln := atL_len L i
      obtain ⟨M, hM⟩ : ∃ M, M = atL (L.take i) := ⟨_, rfl⟩
      rw [← hM] at hstep hln ⊢
      rw [hk'] at hstep
      have HST := Lib.hid hstep
      have HBR := Lib.hid hbr
      have hMN : M ≤ N := by have := HN.out; omega
      clear hstep hM hbr hTd hk' hnm' htd hp hln
      by_cases h9 : k' = 9
      · subst h9
        go_wp2
        go_roundw
        case rel => exact ⟨i + 1, by omega, by go_num, by rw [HST.out]; rfl, HBR.out⟩
        case measure => simp [intOf]; omega
      · have hk0 : (k' == 9) = false := by simpa using h9
        have HST2 := Lib.hid (show atL (L.take (i + 1)) = M by rw [HST.out, if_neg h9]; rfl)
        clear h9 HST
        go_wp2
        go_roundw
        case rel => exact ⟨i + 1, by omega, by go_num, by rw [HST2.out], HBR.out⟩
        case measure => simp [intOf]; omega
    · have h1 : L.take i = L := List.take_of_length_le (by have := HN.out; omega)
      rw [h1]
      clear h1
      go_wp2
      go_ret
      exact ⟨rfl, HX.out.below.trans ((HB1.out.trans (hbr.mono HB1.out.size)).mono HX.out.below.size)⟩
end Vs
end Go.Proofs.Ytjbgdaojhdobkaa
