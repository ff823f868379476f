/-
  formula.sameTree and formula.Same: equality of canonical trees.
-/
import Derived.Test.YtkjbfomokdjbnaaFmT
import Derived.Test.YtkjbfomokdjbnaaFmCp
import Derived.Test.YtkjbfomokdjbnaaFmV
import Derived.Lib.QuietBelow
import Derived.Lib.SlicesS
namespace Go.Proofs.Ytkjbfomokdjbnaa
open Go.RowKit
open Go.Sort
set_option linter.unusedSimpArgs false
set_option linter.unusedVariables false
namespace Fm

mutual
/-- the numbers of a tree are in canonical form -/
def NmT : Tr → Prop
  | .mk h ks => trimN h.abs = h.abs ∧ normB h.neg h.abs = h.neg ∧ NmL ks
def NmL : List Tr → Prop
  | [] => True
  | k :: ks => NmT k ∧ NmL ks
end
theorem NmL.at_ : ∀ {l : List Tr} (h : NmL l) {i : Nat} {k : Tr}, l[i]? = some k → NmT k
  | [], _, i, k, h => by simp at h
  | a :: l, hs, i, k, h => by
    unfold NmL at hs
    match i with
    | 0 => simp at h; subst h; exact hs.1
    | i + 1 => exact NmL.at_ hs.2 (by simpa using h)
theorem sg_same {f1 f2 : Bool} {l1 l2 : List Nat} (h1 : trimN l1 = l1) (h2 : normB f1 l1 = f1) (h3 : trimN l2 = l2) (h4 : normB f2 l2 = f2) : (sg f1 l1 = sg f2 l2 ∧ trimN l1 = trimN l2) ↔ (f1 = f2 ∧ l1 = l2) := by
  rw [h1, h3]
  constructor
  · rintro ⟨ha, rfl⟩
    refine ⟨?_, rfl⟩
    unfold sg at ha
    unfold normB at h2 h4
    rw [h1] at ha h2 h4
    by_cases e : l1.length = 0
    · have e0 : decide (0 < l1.length) = false := by rw [e]; rfl
      rw [e0] at h2 h4; simp at h2 h4; rw [h2, h4]
    · rw [if_neg e, if_neg e] at ha
      cases f1 <;> cases f2 <;> simp at ha ⊢
  · rintro ⟨rfl, rfl⟩; exact ⟨rfl, rfl⟩

set_option maxRecDepth 100000 in
set_option maxHeartbeats 8000000 in
theorem sameTree_any : ∀ (s : Tr) (t : Tr) (cs ds : List Value) (S : Nat → Prop) (r : Bool) (w : World), (∀ b, S b → b < w.heap.size) → TreeAt w S s cs → TreeAt w S t ds → NmT s → NmT t → (r = true ↔ s = t) →
    Calls Try.prog 21 #[.agg cs.toArray, .agg ds.toArray] w fun e w' => e = .returned (.bool r) ∧ Below w.heap.size w w' := by
  refine Tr.ind fun h ks ih => ?_
  intro t cs ds S r w hS hT hU hn1' hn2' hr
  obtain ⟨g, js⟩ := t
  unfold NmT at hn1' hn2'
  obtain ⟨hu1, hu2, hu3⟩ := hn1'
  obtain ⟨hv1, hv2, hv3⟩ := hn2'
  have HN1 := Lib.hid hu3
  have HN2 := Lib.hid hv3
  obtain ⟨A1, n1, c1, A2, K, c2, xs, rfl, hK, hKc, hK64, hn1, hnm, hab, hks, htr⟩ := hT.mkN
  obtain ⟨B1, m1, d1, B2, L, d2, ys, rfl, hL, hLc, hL64, hm1, hnm', hab', hjs, htr'⟩ := hU.mkN
  have IH := Lib.hid ih
  have HK := Lib.hid hK
  have HL := Lib.hid hL
  have HKS := Lib.hid hks
  have HTR := Lib.hid htr
  have HJS := Lib.hid hjs
  have HTR' := Lib.hid htr'
  obtain ⟨W, hW⟩ : ∃ W, (w.alloc (.cells (hdC h (.slice A1 n1 c1) (.slice A2 K c2)).toArray TT)).alloc (.cells (hdC g (.slice B1 m1 d1) (.slice B2 L d2)).toArray TT) = W := ⟨_, rfl⟩
  obtain ⟨k1, f1, l1, s1, x1, q1, b1, a1⟩ := h
  obtain ⟨k2, f2, l2, s2, x2, q2, b2, a2⟩ := g
  have hx : Box w W w.heap.size (hdC ⟨k1, f1, l1, s1, x1, q1, b1, a1⟩ (.slice A1 n1 c1) (.slice A2 K c2)).toArray TT := by rw [← hW]; exact (Box.new w _ _).alloc _
  have hy : Box w W (w.heap.size + 1) (hdC ⟨k2, f2, l2, s2, x2, q2, b2, a2⟩ (.slice B1 m1 d1) (.slice B2 L d2)).toArray TT := by rw [← hW]; exact Box.second w _ _ _
  simp only at hu1 hu2 hv1 hv2
  obtain ⟨r7, hr7⟩ : ∃ r7 : Bool, (r7 = true ↔ (f1 = f2 ∧ l1 = l2)) := by classical exact ⟨decide (f1 = f2 ∧ l1 = l2), by simp⟩
  have hI : ∀ w', Below w.heap.size w w' → Calls Try.prog 28 #[.agg #[.bool f1, .slice A1 n1 c1], .agg #[.bool f2, .slice B1 m1 d1]] w' fun e w2 => e = .returned (.bool r7) ∧ Below w'.heap.size w' w2 := fun w' hb => isame_any f1 f2 l1 l2 _ _ S w' (fun b hb' => Nat.lt_of_lt_of_le (hS b hb') hb.size) (hab.below hS hb) (hab'.below hS hb) r7 (by rw [hr7, sg_same hu1 hu2 hv1 hv2])
  have HI := Lib.hid (hI W hx.below)
  have hr7' : r7 = true ↔ (f1 = f2 ∧ l1 = l2) := hr7
  have H7 := Lib.hid hr7'
  have HR := Lib.hid hr
  unfold hdC at *
  dsimp only [Tr.h] at *
  have HX := Lib.hid hx
  have HY := Lib.hid hy
  obtain ⟨p0, p1, p2, p3, p4, p5, p6, p7, p8⟩ := hx.c9
  obtain ⟨o0, o1, o2, o3, o4, o5, o6, o7, o8⟩ := hy.c9
  clear ih hK hL hks htr hjs htr' hT hU hab hab' hnm hnm' hr hr7 hr7' hI hx hy hn1 hm1 hu1 hu2 hv1 hv2 hu3 hv3
  by_cases z0 : k1 = k2
  case neg =>
    have e1 : (k1 != k2) = true := by simpa using z0
    have HF := Lib.hid (show r = false by cases hh : r with | false => rfl | true => (exfalso; have h2 := HR.out.1 hh; injection h2 with h3 h4; injection h3; contradiction))
    clear HR
    go_enter Try.func21, Try.ntmps21
    go_wp2_with (go_at_call 28; refine HI.out.mono ?_; rintro e w2 ⟨rfl, hb2⟩; obtain ⟨-, -, -, -, -, -, -, -, p8⟩ := (HX.out.step hb2).c9; obtain ⟨-, -, -, -, -, -, -, -, o8⟩ := (HY.out.step hb2).c9; have hX2 := Lib.hid (HX.out.step hb2); have hY2 := Lib.hid (HY.out.step hb2))
    go_ret
    exact ⟨by rw [HF.out]; rfl, by first | exact hX2.out.below | exact HX.out.below⟩
  subst z0
  have e1 : (k1 != k1) = false := by simp
  by_cases z1 : s1 = s2
  case neg =>
    have e2 : (s1.toList == s2.toList) = false := (Lib.bytes_beq_false_iff _ _).2 z1
    have e2b : (s1.toList != s2.toList) = true := by simp only [bne, e2, Bool.not_false]
    have HF := Lib.hid (show r = false by cases hh : r with | false => rfl | true => (exfalso; have h2 := HR.out.1 hh; injection h2 with h3 h4; injection h3; contradiction))
    clear HR
    go_enter Try.func21, Try.ntmps21
    go_wp2_with (go_at_call 28; refine HI.out.mono ?_; rintro e w2 ⟨rfl, hb2⟩; obtain ⟨-, -, -, -, -, -, -, -, p8⟩ := (HX.out.step hb2).c9; obtain ⟨-, -, -, -, -, -, -, -, o8⟩ := (HY.out.step hb2).c9; have hX2 := Lib.hid (HX.out.step hb2); have hY2 := Lib.hid (HY.out.step hb2))
    go_ret
    exact ⟨by rw [HF.out]; rfl, by first | exact hX2.out.below | exact HX.out.below⟩
  subst z1
  by_cases z2 : x1 = x2
  case neg =>
    have e3 : (x1 != x2) = true := by simpa using z2
    have HF := Lib.hid (show r = false by cases hh : r with | false => rfl | true => (exfalso; have h2 := HR.out.1 hh; injection h2 with h3 h4; injection h3; contradiction))
    clear HR
    go_enter Try.func21, Try.ntmps21
    go_wp2_with (go_at_call 28; refine HI.out.mono ?_; rintro e w2 ⟨rfl, hb2⟩; obtain ⟨-, -, -, -, -, -, -, -, p8⟩ := (HX.out.step hb2).c9; obtain ⟨-, -, -, -, -, -, -, -, o8⟩ := (HY.out.step hb2).c9; have hX2 := Lib.hid (HX.out.step hb2); have hY2 := Lib.hid (HY.out.step hb2))
    go_ret
    exact ⟨by rw [HF.out]; rfl, by first | exact hX2.out.below | exact HX.out.below⟩
  subst z2
  have e3 : (x1 != x1) = false := by simp
  by_cases z3 : q1 = q2
  case neg =>
    have e4 : (q1 != q2) = true := by simpa using z3
    have HF := Lib.hid (show r = false by cases hh : r with | false => rfl | true => (exfalso; have h2 := HR.out.1 hh; injection h2 with h3 h4; injection h3; contradiction))
    clear HR
    go_enter Try.func21, Try.ntmps21
    go_wp2_with (go_at_call 28; refine HI.out.mono ?_; rintro e w2 ⟨rfl, hb2⟩; obtain ⟨-, -, -, -, -, -, -, -, p8⟩ := (HX.out.step hb2).c9; obtain ⟨-, -, -, -, -, -, -, -, o8⟩ := (HY.out.step hb2).c9; have hX2 := Lib.hid (HX.out.step hb2); have hY2 := Lib.hid (HY.out.step hb2))
    go_ret
    exact ⟨by rw [HF.out]; rfl, by first | exact hX2.out.below | exact HX.out.below⟩
  subst z3
  have e4 : (q1 != q1) = false := by simp
  by_cases z4 : b1 = b2
  case neg =>
    rcases (show (b1 = true ∧ b2 = false) ∨ (b1 = false ∧ b2 = true) by revert z4; cases b1 <;> cases b2 <;> simp) with ⟨rfl, rfl⟩ | ⟨rfl, rfl⟩
    all_goals
      have HF := Lib.hid (show r = false by cases hh : r with | false => rfl | true => (exfalso; have h2 := HR.out.1 hh; injection h2 with h3 h4; injection h3; contradiction))
      clear HR
      go_enter Try.func21, Try.ntmps21
      go_wp2_with (go_at_call 28; refine HI.out.mono ?_; rintro e w2 ⟨rfl, hb2⟩; obtain ⟨-, -, -, -, -, -, -, -, p8⟩ := (HX.out.step hb2).c9; obtain ⟨-, -, -, -, -, -, -, -, o8⟩ := (HY.out.step hb2).c9; have hX2 := Lib.hid (HX.out.step hb2); have hY2 := Lib.hid (HY.out.step hb2))
      go_ret
      exact ⟨by rw [HF.out]; rfl, by first | exact hX2.out.below | exact HX.out.below⟩
  subst z4
  have e5 : (b1 != b1) = false := by simp
  by_cases z5 : a1 = a2
  case neg =>
    rcases (show (a1 = true ∧ a2 = false) ∨ (a1 = false ∧ a2 = true) by revert z5; cases a1 <;> cases a2 <;> simp) with ⟨rfl, rfl⟩ | ⟨rfl, rfl⟩
    all_goals
      have HF := Lib.hid (show r = false by cases hh : r with | false => rfl | true => (exfalso; have h2 := HR.out.1 hh; injection h2 with h3 h4; injection h3; contradiction))
      clear HR
      go_enter Try.func21, Try.ntmps21
      go_wp2_with (go_at_call 28; refine HI.out.mono ?_; rintro e w2 ⟨rfl, hb2⟩; obtain ⟨-, -, -, -, -, -, -, -, p8⟩ := (HX.out.step hb2).c9; obtain ⟨-, -, -, -, -, -, -, -, o8⟩ := (HY.out.step hb2).c9; have hX2 := Lib.hid (HX.out.step hb2); have hY2 := Lib.hid (HY.out.step hb2))
      go_ret
      exact ⟨by rw [HF.out]; rfl, by first | exact hX2.out.below | exact HX.out.below⟩
  subst z5
  have e6 : (a1 != a1) = false := by simp
  by_cases z6 : r7 = true
  case neg =>
    have z7 : r7 = false := by simpa using z6
    subst z7
    have HF := Lib.hid (show r = false by cases hh : r with | false => rfl | true => (exfalso; have h2 := HR.out.1 hh; injection h2 with h3 h4; have h5 := H7.out.2 (by injection h3; constructor <;> assumption); cases h5))
    clear HR
    go_enter Try.func21, Try.ntmps21
    go_wp2_with (go_at_call 28; refine HI.out.mono ?_; rintro e w2 ⟨rfl, hb2⟩; obtain ⟨-, -, -, -, -, -, -, -, p8⟩ := (HX.out.step hb2).c9; obtain ⟨-, -, -, -, -, -, -, -, o8⟩ := (HY.out.step hb2).c9; have hX2 := Lib.hid (HX.out.step hb2); have hY2 := Lib.hid (HY.out.step hb2))
    go_ret
    exact ⟨by rw [HF.out]; rfl, by first | exact hX2.out.below | exact HX.out.below⟩
  subst z6
  by_cases z7 : K = L
  case neg =>
    have e8 : ((K : Int) != L) = true := by simp; omega
    have HF := Lib.hid (show r = false by cases hh : r with | false => rfl | true => (exfalso; have h2 := HR.out.1 hh; injection h2 with h3 h4; exact z7 (by rw [HK.out, HL.out, h4])))
    clear HR
    go_enter Try.func21, Try.ntmps21
    go_wp2_with (go_at_call 28; refine HI.out.mono ?_; rintro e w2 ⟨rfl, hb2⟩; obtain ⟨-, -, -, -, -, -, -, -, p8⟩ := (HX.out.step hb2).c9; obtain ⟨-, -, -, -, -, -, -, -, o8⟩ := (HY.out.step hb2).c9; have hX2 := Lib.hid (HX.out.step hb2); have hY2 := Lib.hid (HY.out.step hb2))
    go_ret
    exact ⟨by rw [HF.out]; rfl, by first | exact hX2.out.below | exact HX.out.below⟩
  subst z7
  have e8 : ((K : Int) != K) = false := by simp
  have HR2 := Lib.hid (show r = true ↔ ks = js by rw [HR.out, ← (H7.out.1 rfl).1, ← (H7.out.1 rfl).2]; simp)
  clear HR
  go_enter Try.func21, Try.ntmps21
  go_wp2_with (go_at_call 28; refine HI.out.mono ?_; rintro e w2 ⟨rfl, hb2⟩; obtain ⟨-, -, -, -, -, -, -, -, p8⟩ := (HX.out.step hb2).c9; obtain ⟨-, -, -, -, -, -, -, -, o8⟩ := (HY.out.step hb2).c9; have hX2 := Lib.hid (HX.out.step hb2); have hY2 := Lib.hid (HY.out.step hb2))
  go_loopw [65] (fun a_ wr => ∃ (i : Nat), i ≤ K ∧ a_ = .int .i64 i ∧ Box w wr w.heap.size #[.int .i64 k1, .bool f1, .slice A1 n1 c1, .string s1, .int .i64 x1, .int .i64 q1, .bool b1, .bool a1, .slice A2 K c2] TT ∧ Box w wr (w.heap.size + 1) #[.int .i64 k1, .bool f2, .slice B1 m1 d1, .string s1, .int .i64 x1, .int .i64 q1, .bool b1, .bool a1, .slice B2 K d2] TT ∧ Hid (r = true ↔ ks.drop i = js.drop i)) (fun a_ _ => K - (intOf a_).toNat)
  case atStart => exact ⟨0, Nat.zero_le _, rfl, hX2.out, hY2.out, Lib.hid (by rw [HR2.out, List.drop_zero, List.drop_zero])⟩
  case round =>
    obtain ⟨i, hi, rfl, hbx, hby, hrel⟩ := hrel
    have b8 := hbx.cell 8
    have b8' := hby.cell 8
    have HBX := Lib.hid hbx
    have HBY := Lib.hid hby
    have hbel := hbx.below
    clear hbx hby
    by_cases hlt : i < K
    · obtain ⟨kd, b, o, D1, j1, v1, D2, j2, v2, hkd, rfl, hb, hT, g0, g1, g2, g3, g4, g5, g6, g7, g8⟩ := kid_cells (HKS.out.below hS hbel) (HTR.out.below hS hbel) HK.out i hlt
      obtain ⟨ke, b', o', E1, j1', v1', E2, j2', v2', hke, rfl, hb', hT', t0, t1, t2, t3, t4, t5, t6, t7, t8⟩ := kid_cells (HJS.out.below hS hbel) (HTR'.out.below hS hbel) HL.out i hlt
      obtain ⟨W2, hW2⟩ : ∃ W2, wr.alloc (.cells #[.int .i64 kd.h.k, .bool kd.h.neg, .slice D1 j1 v1, .string kd.h.name, .int .i64 kd.h.exp, .int .i64 kd.h.rel, .bool kd.h.truth, .bool kd.h.all, .slice D2 j2 v2] TT) = W2 := ⟨_, rfl⟩
      have hx2 : Box wr W2 wr.heap.size #[.int .i64 kd.h.k, .bool kd.h.neg, .slice D1 j1 v1, .string kd.h.name, .int .i64 kd.h.exp, .int .i64 kd.h.rel, .bool kd.h.truth, .bool kd.h.all, .slice D2 j2 v2] TT := by rw [← hW2]; exact Box.new wr _ _
      have hbel2 := hx2.below
      have hW2b : Below w.heap.size w W2 := hbel.trans (hbel2.mono hbel.size)
      obtain ⟨y0, y1, y2, y3, y4, y5, y6, y7, y8⟩ := hx2.c9
      obtain ⟨rk, hrk⟩ : ∃ rk : Bool, (rk = true ↔ kd = ke) := by classical exact ⟨decide (kd = ke), by simp⟩
      have hC : ∀ d os, _ := fun d os => IH.out kd (mem_at hkd) ke _ _ S rk (grow (redrawn W2 d) os) (fun b hb => Nat.lt_of_lt_of_le (hS b hb) (Nat.le_trans hW2b.size (below_regrown W2 d os).size)) ((hT.below (fun b hb => Nat.lt_of_lt_of_le (hS b hb) hbel.size) hbel2).below (fun b hb => Nat.lt_of_lt_of_le (hS b hb) hW2b.size) (below_regrown W2 d os)) ((hT'.below (fun b hb => Nat.lt_of_lt_of_le (hS b hb) hbel.size) hbel2).below (fun b hb => Nat.lt_of_lt_of_le (hS b hb) hW2b.size) (below_regrown W2 d os)) (NmL.at_ HN1.out hkd) (NmL.at_ HN2.out hke) hrk
      have hs := hrel.out
      rw [drop_same hkd hke, ← hrk] at hs
      have c8' : W2.cell? ⟨w.heap.size + 1, 8, none⟩ = _ := (HBY.out.step hbel2).cell 8
      have hlk : b' < wr.heap.size := Nat.lt_of_lt_of_le (hS b' hb') hbel.size
      have z0 := (hbel2.cell (p := ⟨b', o' + i * 9, none⟩) hlk).trans t0
      have z1 := (hbel2.cell (p := ⟨b', o' + i * 9 + 1, none⟩) hlk).trans t1
      have z2 := (hbel2.cell (p := ⟨b', o' + i * 9 + 2, none⟩) hlk).trans t2
      have z3 := (hbel2.cell (p := ⟨b', o' + i * 9 + 3, none⟩) hlk).trans t3
      have z4 := (hbel2.cell (p := ⟨b', o' + i * 9 + 4, none⟩) hlk).trans t4
      have z5 := (hbel2.cell (p := ⟨b', o' + i * 9 + 5, none⟩) hlk).trans t5
      have z6 := (hbel2.cell (p := ⟨b', o' + i * 9 + 6, none⟩) hlk).trans t6
      have z7 := (hbel2.cell (p := ⟨b', o' + i * 9 + 7, none⟩) hlk).trans t7
      have z8 := (hbel2.cell (p := ⟨b', o' + i * 9 + 8, none⟩) hlk).trans t8
      have HC := Lib.hid hC
      have HS := Lib.hid hs
      have HB2 := Lib.hid hbel2
      have HX2 := Lib.hid (HBX.out.step hbel2)
      have HY2 := Lib.hid (HBY.out.step hbel2)
      have HW2B := Lib.hid hW2b
      clear hC hkd hke hb hb' hT hT' hrk hs hbel2 hx2 hW2b
      have rb' := fun d os => cell_regrown c8' d os
      have rg0 := fun d os => cell_regrown y0 d os
      have rt0 := fun d os => cell_regrown z0 d os
      have rg1 := fun d os => cell_regrown y1 d os
      have rt1 := fun d os => cell_regrown z1 d os
      have rg2 := fun d os => cell_regrown y2 d os
      have rt2 := fun d os => cell_regrown z2 d os
      have rg3 := fun d os => cell_regrown y3 d os
      have rt3 := fun d os => cell_regrown z3 d os
      have rg4 := fun d os => cell_regrown y4 d os
      have rt4 := fun d os => cell_regrown z4 d os
      have rg5 := fun d os => cell_regrown y5 d os
      have rt5 := fun d os => cell_regrown z5 d os
      have rg6 := fun d os => cell_regrown y6 d os
      have rt6 := fun d os => cell_regrown z6 d os
      have rg7 := fun d os => cell_regrown y7 d os
      have rt7 := fun d os => cell_regrown z7 d os
      have rg8 := fun d os => cell_regrown y8 d os
      have rt8 := fun d os => cell_regrown z8 d os
      cases rk
      · have HF := Lib.hid (show r = false by cases hh : r with | false => rfl | true => (have h2 := (HS.out.1 hh).1; cases h2))
        go_wp2_with fail
        clear hW2
        refine wp_region_quiet_below (by kernel_rfl) (by kernel_rfl) ?_
        (repeat (quiet_step (exact Calls.regrown_of (HC.out _ _))))
        refine wpQuiet_nil ?_
        rintro _ ⟨⟨d, os⟩, rfl⟩
        go_wp2; go_ret
        exact ⟨by rw [HF.out]; rfl, HW2B.out.trans ((below_regrown _ d os).mono HW2B.out.size)⟩
      · go_wp2_with fail
        clear hW2
        refine wp_region_quiet_below (by kernel_rfl) (by kernel_rfl) ?_
        (repeat (quiet_step (exact Calls.regrown_of (HC.out _ _))))
        refine wpQuiet_nil ?_
        rintro _ ⟨⟨d, os⟩, rfl⟩
        have hBX := Lib.hid (HX2.out.step (below_regrown _ d os))
        have hBY := Lib.hid (HY2.out.step (below_regrown _ d os))
        go_wp2
        go_roundw
        case rel => exact ⟨i + 1, by omega, by go_num, hBX.out, hBY.out, Lib.hid (by have := HS.out; simpa using this)⟩
        case measure => simp [intOf]; omega
    · have HE := Lib.hid (show r = true by rw [hrel.out, List.drop_eq_nil_of_le (by have := HK.out; omega), List.drop_eq_nil_of_le (by have := HL.out; omega)])
      go_wp2
      go_ret
      exact ⟨by rw [HE.out]; rfl, hbel⟩
theorem nmT_plainT (tm : Tm) : NmT (plainT tm) := by
  induction tm with
  | odd => unfold plainT NmT NmL; exact ⟨rfl, rfl, trivial⟩
  | num neg abs => unfold plainT NmT NmL; exact ⟨trimN_idem abs, normB_idem neg abs, trivial⟩
  | name s => unfold plainT NmT NmL; exact ⟨rfl, rfl, trivial⟩
  | add l r hl hr => unfold plainT NmT NmL NmL NmL; exact ⟨rfl, rfl, hl, hr, trivial⟩
  | sub l r hl hr => unfold plainT NmT NmL NmL NmL; exact ⟨rfl, rfl, hl, hr, trivial⟩
  | mul l r hl hr => unfold plainT NmT NmL NmL NmL; exact ⟨rfl, rfl, hl, hr, trivial⟩
  | neg t ht => unfold plainT NmT NmL NmL; exact ⟨rfl, rfl, ht, trivial⟩
  | pow t e ht => unfold plainT NmT NmL NmL; exact ⟨rfl, rfl, ht, trivial⟩
theorem nmT_plainF (f : Fo) : NmT (plainF f) := by
  induction f with
  | odd => unfold plainF NmT NmL; exact ⟨rfl, rfl, trivial⟩
  | truth b => unfold plainF NmT NmL; exact ⟨rfl, rfl, trivial⟩
  | atom l rel r => unfold plainF NmT NmL NmL NmL; exact ⟨rfl, rfl, nmT_plainT l, nmT_plainT r, trivial⟩
  | not f hf => unfold plainF NmT NmL NmL; exact ⟨rfl, rfl, hf, trivial⟩
  | and l r hl hr => unfold plainF NmT NmL NmL NmL; exact ⟨rfl, rfl, hl, hr, trivial⟩
  | or l r hl hr => unfold plainF NmT NmL NmL NmL; exact ⟨rfl, rfl, hl, hr, trivial⟩
  | implies l r hl hr => unfold plainF NmT NmL NmL NmL; exact ⟨rfl, rfl, hl, hr, trivial⟩
  | iff l r hl hr => unfold plainF NmT NmL NmL NmL; exact ⟨rfl, rfl, hl, hr, trivial⟩
  | quant a nm f hf => unfold plainF NmT NmL NmL; exact ⟨rfl, rfl, hf, trivial⟩

set_option maxHeartbeats 1000000 in
theorem fsame_any (f g : Fo) (vf vg : Value) (S : Nat → Prop) (w : World) (hS : ∀ b, S b → b < w.heap.size) (hf : FoAt w S f vf) (hg : FoAt w S g vg) (sf : SmF f) (sg : SmF g) (r : Bool) (hr : r = true ↔ plainF f = plainF g) :
    Calls Try.prog 10 #[vf, vg] w fun e w' => e = .returned (.bool r) ∧ Below w.heap.size w w' := by
  have hof := hf.one
  have hog := hg.one
  have HP1 := Lib.hid (plain_any f vf S w hS hf sf)
  have HP2 := Lib.hid (show ∀ w', Below w.heap.size w w' → Calls Try.prog 13 #[vg] w' (TreePost (plainF g) w') from fun w' h => plain_any g vg S w' (fun b hb => Nat.lt_of_lt_of_le (hS b hb) h.size) (hg.below hS h) sg)
  have HR := Lib.hid hr
  clear hf hg hr sf sg
  go_enter Try.func10, Try.ntmps10
  go_wp2_with (first
    | (go_at_call 13; (with_reducible refine HP1.out.mono ?_); rintro e w1 ⟨A1, n1, c1, A2, n2, c2, rfl, ht1, hb1⟩; have HT1 := Lib.hid ht1; have HB1 := Lib.hid hb1; clear ht1)
    | (go_at_call 13; (with_reducible refine (HP2.out _ (by assumption)).mono ?_); rintro e w2 ⟨A3, n3, c3, A4, n4, c4, rfl, ht2, hb2⟩; have HT2 := Lib.hid ht2; have HB2 := Lib.hid hb2; clear ht2)
    | (go_at_call 21
       have ha : TreeAt w2 (fun b => b < w2.heap.size) (plainF f) _ := (HT1.out.below (fun b hb => hb.2) hb2).more (fun b hb => Nat.lt_of_lt_of_le hb.2 hb2.size)
       have hb : TreeAt w2 (fun b => b < w2.heap.size) (plainF g) _ := HT2.out.more (fun b hb => hb.2)
       refine (sameTree_any _ _ _ _ _ r w2 (fun b hb => hb) ha hb (nmT_plainF f) (nmT_plainF g) HR.out).mono ?_
       rintro e w3 ⟨rfl, hb3⟩; have HB3 := Lib.hid hb3))
  go_ret
  exact ⟨rfl, (HB1.out.trans (HB2.out.mono HB1.out.size)).trans (HB3.out.mono (Nat.le_trans HB1.out.size HB2.out.size))⟩
end Fm
end Go.Proofs.Ytkjbfomokdjbnaa
