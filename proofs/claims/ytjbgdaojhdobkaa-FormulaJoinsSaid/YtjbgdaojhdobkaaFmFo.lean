/-
  The reference's Fold, walked.
-/
import Derived.Test.YtjbgdaojhdobkaaFmFd
import Derived.Deep.RegionHeld3
namespace Go.Proofs.Ytjbgdaojhdobkaa
open Go.RowKit
set_option linter.unusedSimpArgs false
set_option linter.unusedVariables false
namespace Fm

/-- blocks behind the result's, without P -/
abbrev Sx (w : World) (P : Nat) (wr : World) : Nat → Prop := fun b => w.heap.size + 1 ≤ b ∧ b < wr.heap.size ∧ b ≠ P

theorem foldT_take {b : Bool} {ts : List Tr} {i : Nat} {kd : Tr} (h : ts[i]? = some kd) (hi : 1 ≤ i) : foldT b (ts.take (i + 1)) = foldStep b (foldT b (ts.take i)) kd := by
  cases ts with
  | nil => simp at h
  | cons t l =>
    obtain ⟨j, rfl⟩ : ∃ j, i = j + 1 := ⟨i - 1, by omega⟩
    have h2 : l[j]? = some kd := by simpa using h
    obtain ⟨hj, rfl⟩ := List.getElem?_eq_some_iff.1 h2
    rw [List.take_succ_cons, List.take_succ_cons]
    show List.foldl _ _ _ = foldStep b (List.foldl _ _ _) _
    rw [List.take_succ_eq_append_getElem hj, List.foldl_append]
    rfl
theorem two_kidsS {w2 : World} {S S' : Nat → Prop} {hd : Hd} {va : Value} {T1 T2 : Tr} {c1 c2 : List Value} (ha : AbsAt w2 S va hd.abs) (hn : hd.name.size ≤ 9223372036854775807)
    (h1 : TreeAt w2 S T1 c1) (h2 : TreeAt w2 S T2 c2) (hlt : ∀ b, S b → b < w2.heap.size) (hm : ∀ b, S b → S' b) (hnew : S' w2.heap.size) (o : Obj) (ho : o = .cells (c1 ++ c2).toArray TT) :
    TreeAt (w2.alloc o) S' (.mk hd [T1, T2]) (hdC hd va (.slice (some ⟨w2.heap.size, 0, none⟩) 2 2)) := by
  subst ho
  have hb : Below w2.heap.size w2 (w2.alloc (.cells (c1 ++ c2).toArray TT)) := (Below.refl _ _).alloc (Nat.le_refl _) _
  have hT : TrsC w2 S [T1, T2] (c1 ++ c2) := TrsC.append (TrsC.one h1) (TrsC.one h2)
  refine TreeAt.of (xs := c1 ++ c2) ((ha.below hlt hb).more hm) hn (by simp) ?_ (TrsC.more hm _ _ (hT.below hlt hb))
  refine ⟨_, _, rfl, Nat.le_refl _, hT.len, fun _ => ⟨w2.heap.size, 0, rfl, hnew, fun j u hj => ?_⟩⟩
  rw [Nat.zero_add, cell_new]
  simpa using hj

set_option maxRecDepth 100000 in
set_option maxHeartbeats 4000000 in
theorem fold_any (ts : List Tr) (b : Bool) (A : Option Addr) (n c : Nat) (xs : List Value) (S : Nat → Prop) (w : World) (hS : ∀ b, S b → b < w.heap.size) (hn : n = ts.length) (h20 : n ≤ 1000) (hs : SS w S 9 (.slice A n c) n xs) (ht : TrsC w S ts xs) (hsm : ∀ t ∈ ts, Sm t ∧ nn t ≤ 100000) :
    Calls Try.prog 34 #[.slice A n c, .bool b] w (TreePost (foldT b ts) w) := by
  by_cases h0 : n = 0
  · subst h0
    obtain rfl : ts = [] := List.eq_nil_of_length_eq_zero hn.symm
    clear hn hs ht hsm hS h20
    cases b
    · go_enter Try.func34, Try.ntmps34
      go_wp2
      have hB := Box.new w #[.int .i64 8, .bool false, .slice none 0 0, .string ⟨#[]⟩, .int .i64 0, .int .i64 0, .bool false, .bool false, .slice none 0 0] TT
      have xc := hB.cell
      have xf := hB.fz
      refine bodyPost_ret (v := .agg #[.int .i64 8, .bool false, .slice none 0 0, .string ⟨#[]⟩, .int .i64 0, .int .i64 0, .bool false, .bool false, .slice none 0 0]) (by simp [results, Try.results34, go_sem, xc, xf]) rfl ?_
      exact ⟨none, 0, 0, none, 0, 0, rfl, no_kids AbsAt.empty (by decide), (Below.refl _ w).alloc (Nat.le_refl _) _⟩
    · go_enter Try.func34, Try.ntmps34
      go_wp2
      have hB := Box.new w #[.int .i64 8, .bool false, .slice none 0 0, .string ⟨#[]⟩, .int .i64 0, .int .i64 0, .bool true, .bool false, .slice none 0 0] TT
      have xc := hB.cell
      have xf := hB.fz
      refine bodyPost_ret (v := .agg #[.int .i64 8, .bool false, .slice none 0 0, .string ⟨#[]⟩, .int .i64 0, .int .i64 0, .bool true, .bool false, .slice none 0 0]) (by simp [results, Try.results34, go_sem, xc, xf]) rfl ?_
      exact ⟨none, 0, 0, none, 0, 0, rfl, no_kids AbsAt.empty (by decide), (Below.refl _ w).alloc (Nat.le_refl _) _⟩
  · obtain ⟨W, hW⟩ : ∃ W, w.alloc (.cells #[.int .i64 0, .bool false, .slice none 0 0, .string ⟨#[]⟩, .int .i64 0, .int .i64 0, .bool false, .bool false, .slice none 0 0] TT) = W := ⟨_, rfl⟩
    have hx : Box w W w.heap.size #[.int .i64 0, .bool false, .slice none 0 0, .string ⟨#[]⟩, .int .i64 0, .int .i64 0, .bool false, .bool false, .slice none 0 0] TT := by rw [← hW]; exact Box.new w _ _
    have HX := Lib.hid hx
    have HN := Lib.hid hn
    have HSS := Lib.hid hs
    have HTR := Lib.hid ht
    have HSM := Lib.hid hsm
    have HS := Lib.hid hS
    obtain ⟨kd, bb, o, A1, n1, c1, A2, n2, c2, hkd, rfl, hb, hT, k0, k1, k2, k3, k4, k5, k6, k7, k8⟩ := kid_cells (hs.below hS hx.below) (ht.below hS hx.below) hn 0 (by omega)
    have hmem : kd ∈ ts := List.mem_of_getElem? hkd
    have HC := Lib.hid (canon_any kd _ S W (fun b h => Nat.lt_of_lt_of_le (hS b h) hx.below.size) hT (hsm kd hmem).1 (hsm kd hmem).2)
    have hdz : ((n : Int) == 0) = false := by simp; omega
    have hp0 : (0 : Int) < n := by omega
    simp only [Nat.zero_mul, Nat.add_zero] at k0 k1 k2 k3 k4 k5 k6 k7 k8
    have HTK := Lib.hid (show ts.take 1 = [kd] from by
      cases ts with
      | nil => simp at hkd
      | cons a l => simp at hkd; subst hkd; simp)
    clear hn hs ht hsm hS hT hkd hmem hb hx
    have HK1 := Lib.hid (show canonT kd = foldT b (ts.take 1) from by rw [HTK.out]; rfl)
    cases b
    · go_enter Try.func34, Try.ntmps34
      go_wp2_with (go_at_call 21; refine HC.out.mono ?_; rintro e w1 ⟨B1, m1, d1, B2, m2, d2, rfl, ht1, hb1⟩; have HT1 := Lib.hid ht1; have HB1 := Lib.hid hb1; clear ht1 hb1)
      have hs1 := HB1.out.size
      have hsW := HX.out.lt
      have hx1 : Box w (w1.alloc (.cells #[.int .i64 (canonT kd).h.k, .bool (canonT kd).h.neg, .slice B1 m1 d1, .string (canonT kd).h.name, .int .i64 (canonT kd).h.exp, .int .i64 (canonT kd).h.rel, .bool (canonT kd).h.truth, .bool (canonT kd).h.all, .slice B2 m2 d2] TT)) w.heap.size #[.int .i64 0, .bool false, .slice none 0 0, .string ⟨#[]⟩, .int .i64 0, .int .i64 0, .bool false, .bool false, .slice none 0 0] TT := (HX.out.step HB1.out).alloc _
      have hxP : Box w (w1.alloc (.cells #[.int .i64 (canonT kd).h.k, .bool (canonT kd).h.neg, .slice B1 m1 d1, .string (canonT kd).h.name, .int .i64 (canonT kd).h.exp, .int .i64 (canonT kd).h.rel, .bool (canonT kd).h.truth, .bool (canonT kd).h.all, .slice B2 m2 d2] TT)) w1.heap.size #[.int .i64 (canonT kd).h.k, .bool (canonT kd).h.neg, .slice B1 m1 d1, .string (canonT kd).h.name, .int .i64 (canonT kd).h.exp, .int .i64 (canonT kd).h.rel, .bool (canonT kd).h.truth, .bool (canonT kd).h.all, .slice B2 m2 d2] TT := ⟨hx1.below, (Box.new w1 _ _).cells⟩
      clear hW
      go_loopw [7] (fun a_ wr => ∃ (i : Nat) (T : Tr) (E1 : Option Addr) (e1 g1 : Nat) (E2 : Option Addr) (e2 g2 : Nat), 1 ≤ i ∧ i ≤ n ∧ a_ = .int .i64 i ∧ Box w wr w.heap.size #[.int .i64 0, .bool false, .slice none 0 0, .string ⟨#[]⟩, .int .i64 0, .int .i64 0, .bool false, .bool false, .slice none 0 0] TT ∧ Box w wr w1.heap.size #[.int .i64 T.h.k, .bool T.h.neg, .slice E1 e1 g1, .string T.h.name, .int .i64 T.h.exp, .int .i64 T.h.rel, .bool T.h.truth, .bool T.h.all, .slice E2 e2 g2] TT ∧ Hid (T = foldT false (ts.take i)) ∧ Hid (TreeAt wr (Sx w w1.heap.size wr) T (hdC T.h (.slice E1 e1 g1) (.slice E2 e2 g2)))) (fun a_ _ => n - (intOf a_).toNat)
      case atStart => exact ⟨1, canonT kd, B1, m1, d1, B2, m2, d2, Nat.le_refl _, by omega, rfl, hx1, hxP, HK1, Lib.hid (TreeAt.more (fun b h => ⟨by have := h.1; omega, by have := h.2; simp; omega, by have := h.2; omega⟩) _ _ (HT1.out.below (fun b h => h.2) ((Below.refl w1.heap.size w1).alloc (Nat.le_refl _) _)))⟩
      case round =>
        obtain ⟨i, T, E1, e1, g1, E2, e2, g2, hi0, hi, rfl, hbx, hbP, hT, hTR⟩ := hrel
        by_cases hlt : i < n
        · obtain ⟨kd2, b2, o2, D1, j1, l1, D2, j2, l2, hkd2, he2, hb2S, hT2, t0, t1, t2, t3, t4, t5, t6, t7, t8⟩ := kid_cells (HSS.out.below HS.out hbx.below) (HTR.out.below HS.out hbx.below) HN.out i hlt
          injection he2 with he2
          injection he2 with he2 he3 he4
          subst he2; subst he3
          have hmem2 : kd2 ∈ ts := List.mem_of_getElem? hkd2
          obtain ⟨Tk, hTk⟩ : ∃ Tk, Tk = canonT kd2 := ⟨_, rfl⟩
          have hC2 : ∀ w', Below wr.heap.size wr w' → _ := fun w' hb' => canon_any kd2 _ S w' (fun b h => Nat.lt_of_lt_of_le (HS.out b h) (Nat.le_trans hbx.below.size hb'.size)) (hT2.below (fun b hb => Nat.lt_of_lt_of_le (HS.out b hb) hbx.below.size) hb') (HSM.out kd2 hmem2).1 (HSM.out kd2 hmem2).2
          rw [← hTk] at hC2
          have HC2 := Lib.hid hC2
          have HST := Lib.hid (show foldT false (ts.take (i + 1)) = .mk (hd0 12) [T, Tk] from by rw [foldT_take hkd2 hi0, hT.out, hTk]; rfl)
          have HBX := Lib.hid hbx
          have HBP := Lib.hid hbP
          have HTR2 := Lib.hid hTR.out
          obtain ⟨p0, p1, p2, p3, p4, p5, p6, p7, p8⟩ := hbP.c9
          have HD : Below wr.heap.size wr wr.drew := (Below.refl _ wr).drew
          have hstep := Lib.hid (show ∀ wn, Below wr.drew.heap.size wr.drew wn → Below wr.heap.size wr wn from fun wn h2 => HD.trans h2)
          have hi1 : (0 : Int) ≤ i ∧ (i : Int) < n := by omega
          clear hC2 hTk hT2 hkd2 hmem2 hb2S hbx hbP hTR hT k0 k1 k2 k3 k4 k5 k6 k7 k8 hx1 hxP
          go_wp2_with fail
          go_region_law (first | (go_simp; (go_at_call 21; refine (HC2.out _ HD).mono ?_; rintro e w2 ⟨a1, a2, a3, a4, a5, a6, rfl, htL, hbl⟩; have hb2 := hstep.out _ hbl; have HTL := Lib.hid htL; have hbL := Lib.hid hb2; clear htL hbl; have hP2 := Lib.hid (HBP.out.step hb2); obtain ⟨q0, q1, q2, q3, q4, q5, q6, q7, q8⟩ := hP2.out.c9; have xc := fun ob => (hP2.out.alloc ob).cell; have xf := fun ob => (hP2.out.alloc ob).fz)))
          go_wp2
          all_goals
            go_roundw
            case rel =>
              have s2 := hbL.out.size
              have sP := HBP.out.lt
              have sX := HBX.out.lt
              refine ⟨i + 1, .mk (hd0 12) [T, Tk], none, 0, 0, some ⟨w2.heap.size, 0, none⟩, 2, 2, by omega, by omega, by go_num, ((HBX.out.step hbL.out).alloc _).set9_other ⟨by omega, by omega⟩ _ _ _ _ _ _ _ _ _, (hP2.out.alloc _).set9_at (by omega) _ _ _ _ _ _ _ _ _, Lib.hid HST.out.symm, Lib.hid ?_⟩
              have h1 : TreeAt w2 (Sx w w1.heap.size w2) T _ := TreeAt.more (fun b h => ⟨h.1, by have := h.2.1; omega, h.2.2⟩) _ _ (HTR2.out.below (fun b h => h.2.1) hbL.out)
              have h2 : TreeAt w2 (Sx w w1.heap.size w2) Tk _ := TreeAt.more (fun b h => ⟨by have : wr.heap.size ≤ b := h.1; omega, h.2, by have : wr.heap.size ≤ b := h.1; omega⟩) _ _ HTL.out
              have h3 := two_kidsS (S' := Sx w w1.heap.size (w2.alloc (.cells (hdC T.h (.slice E1 e1 g1) (.slice E2 e2 g2) ++ hdC Tk.h (.slice a1 a2 a3) (.slice a4 a5 a6)).toArray TT))) (hd := hd0 12) (va := .slice none 0 0) AbsAt.empty (by decide) h1 h2 (fun b h => h.2.1) (fun b h => ⟨h.1, by have := h.2.1; simp; omega, h.2.2⟩) ⟨by omega, by simp, by omega⟩ _ rfl
              exact TreeAt.more (fun b h => ⟨h.1, by rw [size_set9]; exact h.2.1, h.2.2⟩) _ _ (h3.set9 (X := w1.heap.size) (fun h => h.2.2 rfl) _ _ _ _ _ _ _ _ _)
            case measure => simp [intOf]; omega
        · have hin : i = n := by omega
          subst hin
          have xc := hbx.cell
          have xf := hbx.fz
          obtain ⟨p0, p1, p2, p3, p4, p5, p6, p7, p8⟩ := hbP.c9
          have HT := Lib.hid (show T = foldT false ts from by rw [hT.out, List.take_of_length_le (by have := HN.out; omega)])
          have HBX := Lib.hid hbx
          have HTR2 := Lib.hid hTR.out
          clear hbx hbP hT hTR k0 k1 k2 k3 k4 k5 k6 k7 k8 hx1 hxP
          go_wp2_with fail
          refine bodyPost_ret (v := .agg #[.int .i64 T.h.k, .bool T.h.neg, .slice E1 e1 g1, .string T.h.name, .int .i64 T.h.exp, .int .i64 T.h.rel, .bool T.h.truth, .bool T.h.all, .slice E2 e2 g2]) (by simp [results, Try.results34, go_sem, xc, xf]) rfl ?_
          rw [← HT.out]
          exact ⟨E1, e1, g1, E2, e2, g2, rfl, TreeAt.more (fun b hb => ⟨by have := hb.1; omega, by rw [size_set9]; exact hb.2.1⟩) _ _ (HTR2.out.set9 (X := w.heap.size) (fun h => by have := h.1; omega) _ _ _ _ _ _ _ _ _), below_set9 HBX.out.below (Nat.le_refl _) _ _ _ _ _ _ _ _ _⟩
    · go_enter Try.func34, Try.ntmps34
      go_wp2_with (go_at_call 21; refine HC.out.mono ?_; rintro e w1 ⟨B1, m1, d1, B2, m2, d2, rfl, ht1, hb1⟩; have HT1 := Lib.hid ht1; have HB1 := Lib.hid hb1; clear ht1 hb1)
      have hs1 := HB1.out.size
      have hsW := HX.out.lt
      have hx1 : Box w (w1.alloc (.cells #[.int .i64 (canonT kd).h.k, .bool (canonT kd).h.neg, .slice B1 m1 d1, .string (canonT kd).h.name, .int .i64 (canonT kd).h.exp, .int .i64 (canonT kd).h.rel, .bool (canonT kd).h.truth, .bool (canonT kd).h.all, .slice B2 m2 d2] TT)) w.heap.size #[.int .i64 0, .bool false, .slice none 0 0, .string ⟨#[]⟩, .int .i64 0, .int .i64 0, .bool false, .bool false, .slice none 0 0] TT := (HX.out.step HB1.out).alloc _
      have hxP : Box w (w1.alloc (.cells #[.int .i64 (canonT kd).h.k, .bool (canonT kd).h.neg, .slice B1 m1 d1, .string (canonT kd).h.name, .int .i64 (canonT kd).h.exp, .int .i64 (canonT kd).h.rel, .bool (canonT kd).h.truth, .bool (canonT kd).h.all, .slice B2 m2 d2] TT)) w1.heap.size #[.int .i64 (canonT kd).h.k, .bool (canonT kd).h.neg, .slice B1 m1 d1, .string (canonT kd).h.name, .int .i64 (canonT kd).h.exp, .int .i64 (canonT kd).h.rel, .bool (canonT kd).h.truth, .bool (canonT kd).h.all, .slice B2 m2 d2] TT := ⟨hx1.below, (Box.new w1 _ _).cells⟩
      clear hW
      go_loopw [7] (fun a_ wr => ∃ (i : Nat) (T : Tr) (E1 : Option Addr) (e1 g1 : Nat) (E2 : Option Addr) (e2 g2 : Nat), 1 ≤ i ∧ i ≤ n ∧ a_ = .int .i64 i ∧ Box w wr w.heap.size #[.int .i64 0, .bool false, .slice none 0 0, .string ⟨#[]⟩, .int .i64 0, .int .i64 0, .bool false, .bool false, .slice none 0 0] TT ∧ Box w wr w1.heap.size #[.int .i64 T.h.k, .bool T.h.neg, .slice E1 e1 g1, .string T.h.name, .int .i64 T.h.exp, .int .i64 T.h.rel, .bool T.h.truth, .bool T.h.all, .slice E2 e2 g2] TT ∧ Hid (T = foldT true (ts.take i)) ∧ Hid (TreeAt wr (Sx w w1.heap.size wr) T (hdC T.h (.slice E1 e1 g1) (.slice E2 e2 g2)))) (fun a_ _ => n - (intOf a_).toNat)
      case atStart => exact ⟨1, canonT kd, B1, m1, d1, B2, m2, d2, Nat.le_refl _, by omega, rfl, hx1, hxP, HK1, Lib.hid (TreeAt.more (fun b h => ⟨by have := h.1; omega, by have := h.2; simp; omega, by have := h.2; omega⟩) _ _ (HT1.out.below (fun b h => h.2) ((Below.refl w1.heap.size w1).alloc (Nat.le_refl _) _)))⟩
      case round =>
        obtain ⟨i, T, E1, e1, g1, E2, e2, g2, hi0, hi, rfl, hbx, hbP, hT, hTR⟩ := hrel
        by_cases hlt : i < n
        · obtain ⟨kd2, b2, o2, D1, j1, l1, D2, j2, l2, hkd2, he2, hb2S, hT2, t0, t1, t2, t3, t4, t5, t6, t7, t8⟩ := kid_cells (HSS.out.below HS.out hbx.below) (HTR.out.below HS.out hbx.below) HN.out i hlt
          injection he2 with he2
          injection he2 with he2 he3 he4
          subst he2; subst he3
          have hmem2 : kd2 ∈ ts := List.mem_of_getElem? hkd2
          obtain ⟨Tk, hTk⟩ : ∃ Tk, Tk = canonT kd2 := ⟨_, rfl⟩
          have hC2 : ∀ w', Below wr.heap.size wr w' → _ := fun w' hb' => canon_any kd2 _ S w' (fun b h => Nat.lt_of_lt_of_le (HS.out b h) (Nat.le_trans hbx.below.size hb'.size)) (hT2.below (fun b hb => Nat.lt_of_lt_of_le (HS.out b hb) hbx.below.size) hb') (HSM.out kd2 hmem2).1 (HSM.out kd2 hmem2).2
          rw [← hTk] at hC2
          have HC2 := Lib.hid hC2
          have HST := Lib.hid (show foldT true (ts.take (i + 1)) = .mk (hd0 11) [T, Tk] from by rw [foldT_take hkd2 hi0, hT.out, hTk]; rfl)
          have HBX := Lib.hid hbx
          have HBP := Lib.hid hbP
          have HTR2 := Lib.hid hTR.out
          obtain ⟨p0, p1, p2, p3, p4, p5, p6, p7, p8⟩ := hbP.c9
          have HD : Below wr.heap.size wr wr.drew := (Below.refl _ wr).drew
          have hstep := Lib.hid (show ∀ wn, Below wr.drew.heap.size wr.drew wn → Below wr.heap.size wr wn from fun wn h2 => HD.trans h2)
          have hi1 : (0 : Int) ≤ i ∧ (i : Int) < n := by omega
          clear hC2 hTk hT2 hkd2 hmem2 hb2S hbx hbP hTR hT k0 k1 k2 k3 k4 k5 k6 k7 k8 hx1 hxP
          go_wp2_with fail
          go_region_law (first | (go_simp; (go_at_call 21; refine (HC2.out _ HD).mono ?_; rintro e w2 ⟨a1, a2, a3, a4, a5, a6, rfl, htL, hbl⟩; have hb2 := hstep.out _ hbl; have HTL := Lib.hid htL; have hbL := Lib.hid hb2; clear htL hbl; have hP2 := Lib.hid (HBP.out.step hb2); obtain ⟨q0, q1, q2, q3, q4, q5, q6, q7, q8⟩ := hP2.out.c9; have xc := fun ob => (hP2.out.alloc ob).cell; have xf := fun ob => (hP2.out.alloc ob).fz)))
          go_wp2
          all_goals
            go_roundw
            case rel =>
              have s2 := hbL.out.size
              have sP := HBP.out.lt
              have sX := HBX.out.lt
              refine ⟨i + 1, .mk (hd0 11) [T, Tk], none, 0, 0, some ⟨w2.heap.size, 0, none⟩, 2, 2, by omega, by omega, by go_num, ((HBX.out.step hbL.out).alloc _).set9_other ⟨by omega, by omega⟩ _ _ _ _ _ _ _ _ _, (hP2.out.alloc _).set9_at (by omega) _ _ _ _ _ _ _ _ _, Lib.hid HST.out.symm, Lib.hid ?_⟩
              have h1 : TreeAt w2 (Sx w w1.heap.size w2) T _ := TreeAt.more (fun b h => ⟨h.1, by have := h.2.1; omega, h.2.2⟩) _ _ (HTR2.out.below (fun b h => h.2.1) hbL.out)
              have h2 : TreeAt w2 (Sx w w1.heap.size w2) Tk _ := TreeAt.more (fun b h => ⟨by have : wr.heap.size ≤ b := h.1; omega, h.2, by have : wr.heap.size ≤ b := h.1; omega⟩) _ _ HTL.out
              have h3 := two_kidsS (S' := Sx w w1.heap.size (w2.alloc (.cells (hdC T.h (.slice E1 e1 g1) (.slice E2 e2 g2) ++ hdC Tk.h (.slice a1 a2 a3) (.slice a4 a5 a6)).toArray TT))) (hd := hd0 11) (va := .slice none 0 0) AbsAt.empty (by decide) h1 h2 (fun b h => h.2.1) (fun b h => ⟨h.1, by have := h.2.1; simp; omega, h.2.2⟩) ⟨by omega, by simp, by omega⟩ _ rfl
              exact TreeAt.more (fun b h => ⟨h.1, by rw [size_set9]; exact h.2.1, h.2.2⟩) _ _ (h3.set9 (X := w1.heap.size) (fun h => h.2.2 rfl) _ _ _ _ _ _ _ _ _)
            case measure => simp [intOf]; omega
        · have hin : i = n := by omega
          subst hin
          have xc := hbx.cell
          have xf := hbx.fz
          obtain ⟨p0, p1, p2, p3, p4, p5, p6, p7, p8⟩ := hbP.c9
          have HT := Lib.hid (show T = foldT true ts from by rw [hT.out, List.take_of_length_le (by have := HN.out; omega)])
          have HBX := Lib.hid hbx
          have HTR2 := Lib.hid hTR.out
          clear hbx hbP hT hTR k0 k1 k2 k3 k4 k5 k6 k7 k8 hx1 hxP
          go_wp2_with fail
          refine bodyPost_ret (v := .agg #[.int .i64 T.h.k, .bool T.h.neg, .slice E1 e1 g1, .string T.h.name, .int .i64 T.h.exp, .int .i64 T.h.rel, .bool T.h.truth, .bool T.h.all, .slice E2 e2 g2]) (by simp [results, Try.results34, go_sem, xc, xf]) rfl ?_
          rw [← HT.out]
          exact ⟨E1, e1, g1, E2, e2, g2, rfl, TreeAt.more (fun b hb => ⟨by have := hb.1; omega, by rw [size_set9]; exact hb.2.1⟩) _ _ (HTR2.out.set9 (X := w.heap.size) (fun h => by have := h.1; omega) _ _ _ _ _ _ _ _ _), below_set9 HBX.out.below (Nat.le_refl _) _ _ _ _ _ _ _ _ _⟩
end Fm
end Go.Proofs.Ytjbgdaojhdobkaa
