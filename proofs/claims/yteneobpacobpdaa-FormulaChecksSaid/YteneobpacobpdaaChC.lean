/-
  The reference's Check.
-/
import Derived.Test.YteneobpacobpdaaChR
namespace Go.Proofs.Yteneobpacobpdaa
open Go.RowKit Go.Sort
set_option linter.unusedSimpArgs false
set_option linter.unusedVariables false
namespace Ch
open Fm Va Dc

theorem flat_tm {t : Tr} {tm : Tm} (h : RT t tm) : Sm t → ∀ (d : Int), ∀ p ∈ flatF t d, Sm p.1 ∧ p.1.h.k ≠ 9 := by
  induction h with
  | num h hk => intro hs d p hp; rw [flatF_mk, List.mem_cons, flatL_nil] at hp; rcases hp with rfl | hp; exact ⟨hs, by show h.k ≠ 9; omega⟩; cases hp
  | name h hk => intro hs d p hp; rw [flatF_mk, List.mem_cons, flatL_nil] at hp; rcases hp with rfl | hp; exact ⟨hs, by show h.k ≠ 9; omega⟩; cases hp
  | add h a b p q hk ha hb ia ib => intro hs d p hp; rw [flatF_mk, List.mem_cons, flatL_two, List.mem_append] at hp; have h2 := hs; unfold Sm at h2; rcases hp with rfl | hp | hp; exact ⟨hs, by show h.k ≠ 9; omega⟩; exact ia h2.2.2.1 _ p hp; exact ib h2.2.2.2.1 _ p hp
  | sub h a b p q hk ha hb ia ib => intro hs d p hp; rw [flatF_mk, List.mem_cons, flatL_two, List.mem_append] at hp; have h2 := hs; unfold Sm at h2; rcases hp with rfl | hp | hp; exact ⟨hs, by show h.k ≠ 9; omega⟩; exact ia h2.2.2.1 _ p hp; exact ib h2.2.2.2.1 _ p hp
  | mul h a b p q hk ha hb ia ib => intro hs d p hp; rw [flatF_mk, List.mem_cons, flatL_two, List.mem_append] at hp; have h2 := hs; unfold Sm at h2; rcases hp with rfl | hp | hp; exact ⟨hs, by show h.k ≠ 9; omega⟩; exact ia h2.2.2.1 _ p hp; exact ib h2.2.2.2.1 _ p hp
  | neg h a p hk ha ia => intro hs d p hp; rw [flatF_mk, List.mem_cons, flatL_one] at hp; have h2 := hs; unfold Sm at h2; rcases hp with rfl | hp; exact ⟨hs, by show h.k ≠ 9; omega⟩; exact ia h2.2.2.1 _ p hp
  | pow h a p hk he ha ia => intro hs d p hp; rw [flatF_mk, List.mem_cons, flatL_one] at hp; have h2 := hs; unfold Sm at h2; rcases hp with rfl | hp; exact ⟨hs, by show h.k ≠ 9; omega⟩; exact ia h2.2.2.1 _ p hp
/-- an atom has two terms -/
def AtK (p : Tr) : Prop := Sm p ∧ (p.h.k = 9 → ∃ a b x y, p.kids = [a, b] ∧ RT a x ∧ RT b y)
theorem AtK.no {h : Hd} {ks : List Tr} (hs : Sm (.mk h ks)) (hk : h.k ≠ 9) : AtK (.mk h ks) := ⟨hs, fun e => absurd e hk⟩
theorem flat_fo {t : Tr} {f : Fo} (h : RF t f) : Sm t → ∀ (d : Int), ∀ p ∈ flatF t d, AtK p.1 := by
  induction h with
  | truth h hk => intro hs d p hp; rw [flatF_mk, List.mem_cons, flatL_nil] at hp; rcases hp with rfl | hp; exact AtK.no hs (by omega); cases hp
  | atom h a b p q hk hr ha hb =>
    intro hs d p hp; rw [flatF_mk, List.mem_cons, flatL_two, List.mem_append] at hp; have h2 := hs; unfold Sm at h2
    rcases hp with rfl | hp | hp
    · exact ⟨hs, fun _ => ⟨a, b, _, _, rfl, ha, hb⟩⟩
    · have h3 := flat_tm ha h2.2.2.1 _ p hp; exact ⟨h3.1, fun e => absurd e h3.2⟩
    · have h3 := flat_tm hb h2.2.2.2.1 _ p hp; exact ⟨h3.1, fun e => absurd e h3.2⟩
  | not h a p hk ha ia => intro hs d p hp; rw [flatF_mk, List.mem_cons, flatL_one] at hp; have h2 := hs; unfold Sm at h2; rcases hp with rfl | hp; exact AtK.no hs (by omega); exact ia h2.2.2.1 _ p hp
  | and h a b p q hk ha hb ia ib => intro hs d p hp; rw [flatF_mk, List.mem_cons, flatL_two, List.mem_append] at hp; have h2 := hs; unfold Sm at h2; rcases hp with rfl | hp | hp; exact AtK.no hs (by omega); exact ia h2.2.2.1 _ p hp; exact ib h2.2.2.2.1 _ p hp
  | or h a b p q hk ha hb ia ib => intro hs d p hp; rw [flatF_mk, List.mem_cons, flatL_two, List.mem_append] at hp; have h2 := hs; unfold Sm at h2; rcases hp with rfl | hp | hp; exact AtK.no hs (by omega); exact ia h2.2.2.1 _ p hp; exact ib h2.2.2.2.1 _ p hp
  | implies h a b p q hk ha hb ia ib => intro hs d p hp; rw [flatF_mk, List.mem_cons, flatL_two, List.mem_append] at hp; have h2 := hs; unfold Sm at h2; rcases hp with rfl | hp | hp; exact AtK.no hs (by omega); exact ia h2.2.2.1 _ p hp; exact ib h2.2.2.2.1 _ p hp
  | iff h a b p q hk ha hb ia ib => intro hs d p hp; rw [flatF_mk, List.mem_cons, flatL_two, List.mem_append] at hp; have h2 := hs; unfold Sm at h2; rcases hp with rfl | hp | hp; exact AtK.no hs (by omega); exact ia h2.2.2.1 _ p hp; exact ib h2.2.2.2.1 _ p hp
  | quant h a p hk ha ia => intro hs d p hp; rw [flatF_mk, List.mem_cons, flatL_one] at hp; have h2 := hs; unfold Sm at h2; rcases hp with rfl | hp; exact AtK.no hs (by omega); exact ia h2.2.2.1 _ p hp
theorem any_drop_step {α : Type} (f : α → Bool) {l : List α} {i : Nat} {x : α} (h : l[i]? = some x) : (l.drop i).any f = (f x || (l.drop (i + 1)).any f) := by
  obtain ⟨hi, rfl⟩ := List.getElem?_eq_some_iff.1 h
  rw [List.drop_eq_getElem_cons hi, List.any_cons]
theorem dist_take {L : List ByteArray} {i : Nat} {x : ByteArray} (h : L[i]? = some x) : (L.take (i + 1)).foldl addN [] = addN ((L.take i).foldl addN []) x := foldl_take_succ addN [] h
theorem dist_lens (L : List ByteArray) (i : Nat) : ((L.take i).foldl addN []).length ≤ L.length := by
  have h := sub_len ((L.take i).foldl addN []) L (fold_nodup _ [] (by simp)) (fun x hx => by
    rw [fold_mem] at hx
    rcases hx with hx | hx
    · cases hx
    · exact List.mem_of_mem_take hx)
  exact h
theorem sm_abs {t : Tr} (h : Sm t) : t.h.abs.length ≤ 20 := by cases t; unfold Sm at h; exact h.1
theorem sm_kid {t : Tr} (h : Sm t) {i : Nat} {k : Tr} (hk : t.kids[i]? = some k) : Sm k := by cases t; unfold Sm at h; exact h.2.2.at_ hk
def lim8 (b : Bool) : Int := if b = true then 8 else 0

set_option maxRecDepth 100000 in
set_option maxHeartbeats 16000000 in
theorem rcheck_any (t : Tr) (f : Fo) (hf : RF t f) (hsm : Sm t) (cs : List Value) (S : Nat → Prop) (w : World) (hS : ∀ b, S b → b < w.heap.size) (hT : TreeAt w S t cs) (hn : nn t ≤ 100000) (hsz : ∀ nm ∈ nmL (flatF t 0), nm.size ≤ 1000000) (hfl : (freeR t [] []).length ≤ 1000000) (hbl : (qNames (partsL (flatF t 0))).length ≤ 1000000) :
    Calls Try.prog 9 #[.agg cs.toArray] w fun e w' => e = .returned (.int .i64 (rCheck t)) ∧ Below w.heap.size w w' := by
  obtain ⟨A1, n1, c1, A2, n2, c2, k, neg, nm, ex, rl, tr, al, rfl⟩ := hT.nine
  have hx := Box.new w #[.int .i64 k, .bool neg, .slice A1 n1 c1, .string nm, .int .i64 ex, .int .i64 rl, .bool tr, .bool al, .slice A2 n2 c2] TT
  have HX := Lib.hid hx
  have hlt : ∀ w', Below w.heap.size w w' → ∀ b, S b → b < w'.heap.size := fun w' h b hb => Nat.lt_of_lt_of_le (hS b hb) h.size
  have HBD := Lib.hid (rbad_any t _ S _ (hlt _ hx.below) (hT.below hS hx.below) hn hsz hfl hbl)
  have HCN := Lib.hid (show ∀ w', Below w.heap.size w w' → Calls Try.prog 27 #[.agg #[.int .i64 k, .bool neg, .slice A1 n1 c1, .string nm, .int .i64 ex, .int .i64 rl, .bool tr, .bool al, .slice A2 n2 c2]] w' fun e w2 => ∃ v', e = .returned v' ∧ w2.ownsRow w'.heap.size tStr 1 v' (nmL (flatF t 0)).length ((nmL (flatF t 0)).map Value.string) ∧ Below w'.heap.size w' w2 from fun w' hb => rnames_any t _ S w' (hlt w' hb) (hT.below hS hb) hn)
  have HNO := Lib.hid (show ∀ w', Below w.heap.size w w' → Calls Try.prog 29 #[.agg #[.int .i64 k, .bool neg, .slice A1 n1 c1, .string nm, .int .i64 ex, .int .i64 rl, .bool tr, .bool al, .slice A2 n2 c2]] w' fun e w2 => e = .returned (.int .i64 (nn t : Int)) ∧ Below w'.heap.size w' w2 from fun w' hb => nodes_ref t _ S w' (hlt w' hb) (hT.below hS hb) hn)
  obtain ⟨X, hX⟩ : ∃ X, X = nn t := ⟨_, rfl⟩
  obtain ⟨Y, hY⟩ : ∃ Y, Y = atL (partsL (flatF t 0)) := ⟨_, rfl⟩
  have HAT := Lib.hid (show ∀ w', Below w.heap.size w w' → Calls Try.prog 30 #[.agg #[.int .i64 k, .bool neg, .slice A1 n1 c1, .string nm, .int .i64 ex, .int .i64 rl, .bool tr, .bool al, .slice A2 n2 c2]] w' fun e w2 => e = .returned (.int .i64 (Y : Int)) ∧ Below w'.heap.size w' w2 from fun w' hb => by rw [hY]; exact atoms_ref t _ S w' (hlt w' hb) (hT.below hS hb) hn)
  rw [← hX] at HNO
  have HLI := Lib.hid (show ∀ w', Below w.heap.size w w' → Calls Try.prog 14 #[.agg #[.int .i64 k, .bool neg, .slice A1 n1 c1, .string nm, .int .i64 ex, .int .i64 rl, .bool tr, .bool al, .slice A2 n2 c2], .int .i64 0] w' (ListPost (flatF t 0) S w') from fun w' hb => list_any t _ S 0 w' (hlt w' hb) (hT.below hS hb) hn (by omega) (by omega))
  have HFK := Lib.hid (flat_fo hf hsm 0)
  obtain ⟨La, hLa⟩ : ∃ L, L = nmL (flatF t 0) := ⟨_, rfl⟩
  obtain ⟨L, hL⟩ : ∃ L, L = flatF t 0 := ⟨_, rfl⟩
  obtain ⟨bd, hbd⟩ : ∃ b, b = rBad t := ⟨_, rfl⟩
  obtain ⟨K, hK⟩ : ∃ K, K = rCheck t := ⟨_, rfl⟩
  have hKK : K = if bd = true then 7 else if (decide (4000 < X) || (decide (16 < Y) || decide (4 < (La.foldl addN []).length))) = true then 8 else lim8 (L.any fun p => viol p.1) := by rw [hK, hbd, hX, hY, hLa, hL]; rfl
  rw [← hK]
  rw [← hbd] at HBD
  rw [← hLa] at HCN hsz
  obtain ⟨N, hN⟩ : ∃ N, N = La.length := ⟨_, rfl⟩
  have hN1 : N ≤ 100000 := by
    have := nmL_len (flatF t 0) (flatF t 0).length
    rw [List.take_length, flatF_len, ← hLa] at this
    rw [hN]; omega
  rw [← hN] at HCN
  obtain ⟨NL, hNL⟩ : ∃ N, N = L.length := ⟨_, rfl⟩
  have hNL1 : NL ≤ 100000 := by rw [hNL, hL, flatF_len]; exact hn
  rw [← hL] at HLI HFK
  have HN := Lib.hid hN
  have HNL := Lib.hid hNL
  have HKK := Lib.hid hKK
  have HSZ := Lib.hid hsz
  have HS := Lib.hid hS
  have hstep := Lib.hid (show ∀ wc wn, Below w.heap.size w wc → Below wc.heap.size wc wn → Below w.heap.size w wn from fun wc wn h1 h2 => h1.trans (h2.mono h1.size))
  have hX1 : X ≤ 100000 := by rw [hX]; exact hn
  clear hx hT hLa hL hbd hK hKK hN hNL hS hn hsz hlt hf hsm hfl hbl hX hY
  obtain ⟨i0, hi0, hz0, hz1, hz2⟩ := info_parts infoStr
  cases bd
  case true =>
    obtain rfl : K = 7 := by rw [HKK.out]; rfl
    clear HKK
    go_enter Try.func9, Try.ntmps9
    go_wp2_with (go_at_call 26; refine HBD.out.mono ?_; rintro e w1 ⟨rfl, hb1⟩; have HW1 := Lib.hid (hstep.out _ _ HX.out.below hb1); clear hb1)
    go_ret
    exact ⟨rfl, HW1.out⟩
  case false =>
    go_enter Try.func9, Try.ntmps9
    go_wp2_with (first
      | (go_at_call 26; refine HBD.out.mono ?_; rintro e w0 ⟨rfl, hb0⟩; have hx0 := HX.out.step hb0; obtain ⟨x0, x1, x2, x3, x4, x5, x6, x7, x8⟩ := hx0.c9; have HX0 := Lib.hid hx0; clear hb0 hx0)
      | (go_at_call 27; refine (HCN.out _ HX0.out.below).mono ?_; intro e w1 hp; obtain ⟨v1, rfl, hoA, hb1⟩ := hp; obtain ⟨r1, q1, rfl⟩ := row_form (by omega) hoA; have HOA := Lib.hid hoA; have HX1 := Lib.hid (HX0.out.step hb1); clear hoA hb1))
    go_loopw [3, 17] (fun v3 a_ wr => ∃ (i : Nat), i ≤ N ∧ a_ = .int .i64 i ∧ Below w1.heap.size w1 wr ∧ Hid (wr.ownsRow w1.heap.size tStr 1 v3 ((La.take i).foldl addN []).length (((La.take i).foldl addN []).map Value.string))) (fun _ a_ _ => N - (intOf a_).toNat)
    case atStart => exact ⟨0, Nat.zero_le _, rfl, Below.refl _ _, Lib.hid ⟨rfl, .inl ⟨rfl, rfl⟩⟩⟩
    case round =>
      obtain ⟨i, hi, rfl, hbr, ho⟩ := hrel
      have hbs := hbr.size
      by_cases hlt : i < N
      · obtain ⟨g, c, nm1, hv, hnmL, hcell⟩ := str_at HOA.out HN.out (Owns.of_below hbr (fun _ => False)) (fun b h => h.elim) i hlt
        injection hv with hv1 hv2 hv3
        subst hv1; subst hv3
        have hstp := dist_take hnmL
        have hln := dist_lens La i
        obtain ⟨D, hD⟩ : ∃ D, D = (La.take i).foldl addN [] := ⟨_, rfl⟩
        have ho' := ho.out
        rw [← hD] at ho' hln hstp
        obtain ⟨M, hM⟩ : ∃ M, M = D.length := ⟨_, rfl⟩
        rw [← hM] at ho' hln
        have hMN : M ≤ N := by have := HN.out; omega
        obtain ⟨r3, q3, rfl⟩ := row_form (by omega) ho'
        have hsa : StrsAt wr (fun b => w1.heap.size ≤ b ∧ b < wr.heap.size) (.slice r3 M q3) D := by rw [hM] at ho' ⊢; exact StrsAt.of_own ho' (by omega)
        obtain ⟨z, hz⟩ : ∃ z, z = decide (nm1 ∈ D) := ⟨_, rfl⟩
        have HH := Lib.hid (has_any D _ nm1 _ wr hsa z (by rw [hz]; simp))
        have HO1 := Lib.hid ho'
        have HBR := Lib.hid hbr
        have HM := Lib.hid hM
        cases z
        · have hst2 : (La.take (i + 1)).foldl addN [] = D ++ [nm1] := by rw [hstp]; unfold addN; rw [if_neg (of_decide_eq_false hz.symm)]
          have HST := Lib.hid hst2
          clear hsa hz ho' ho hstp hln hD hM hbr hst2 hnmL
          go_wp2_with (first
            | (go_at_call 28; refine HH.out.mono ?_; rintro e w9 ⟨rfl, rfl⟩)
            | (at_builtin; refine wpList_append_lies _ rfl (.tmp 27) (.tmp 32) 50 rfl w1.heap.size tStr i0 _ 1 16 Try.underlying50 hi0 hz0 hz1 hz2 rfl (by decide) (.slice r3 M q3) M _ rfl (HO1.out.alloc _) ⟨wr.heap.size, 0, none⟩ 1 1 [.string nm1] rfl rfl (cell_one_new _ _ _) (by intro u hu; simp at hu; rw [hu]; rfl) (by omega) (by unfold maxLen; omega) (by omega) (by simp; omega) _ rfl ?_; intro gg cap3 w3 ho3 hgrow3 hat3 hlt3; have HO3 := Lib.hid ho3; have HG3 := Lib.hid hgrow3; clear ho3 hat3 hgrow3))
          go_roundw
          case rel =>
            refine ⟨i + 1, by omega, by go_num, (HBR.out.alloc HBR.out.size _).grown HG3.out (by simp; omega) (fun k hk => (HO1.out.lt k hk).1), Lib.hid ?_⟩
            rw [HST.out]
            rw [show (D ++ [nm1]).length = M + 1 by rw [List.length_append, ← HM.out]; rfl, List.map_append]
            exact HO3.out
          case measure => simp [intOf]; omega
        · have hst2 : (La.take (i + 1)).foldl addN [] = D := by rw [hstp]; unfold addN; rw [if_pos (of_decide_eq_true hz.symm)]
          have HST := Lib.hid hst2
          clear hsa hz ho' ho hstp hln hD hM hbr hst2 hnmL
          go_wp2_with (first
            | (go_at_call 28; refine HH.out.mono ?_; rintro e w9 ⟨rfl, rfl⟩))
          go_roundw
          case rel => exact ⟨i + 1, by omega, by go_num, HBR.out, Lib.hid (by rw [HST.out, ← HM.out]; exact HO1.out)⟩
          case measure => simp [intOf]; omega
      · obtain ⟨Z, hZ⟩ : ∃ Z, Z = (La.foldl addN []).length := ⟨_, rfl⟩
        have ho' := ho.out
        rw [List.take_of_length_le (show La.length ≤ i by have := HN.out; omega), ← hZ] at ho'
        obtain ⟨r3, q3, rfl⟩ := row_form (by omega) ho'
        have hkk := HKK.out
        rw [← hZ] at hkk
        rw [if_neg (by simp)] at hkk
        have HXR := Lib.hid (HX1.out.step hbr)
        obtain ⟨x0, x1, x2, x3, x4, x5, x6, x7, x8⟩ := HXR.out.c9
        have HKR := Lib.hid hkk
        clear ho ho' hZ hkk hbr HKK
        by_cases h1 : 4000 < X
        · obtain rfl : K = 8 := by rw [HKR.out]; simp [h1]
          clear HKR
          go_wp2_with (first
            | (go_at_call 29; refine (HNO.out _ HXR.out.below).mono ?_; rintro e w2 ⟨rfl, hb2⟩; have hx2 := HXR.out.step hb2; obtain ⟨y0, y1, y2, y3, y4, y5, y6, y7, y8⟩ := hx2.c9; have HX2 := Lib.hid hx2; clear hb2 hx2)
            | (go_at_call 30; refine (HAT.out _ HX2.out.below).mono ?_; rintro e w3 ⟨rfl, hb3⟩; have hx3 := HX2.out.step hb3; obtain ⟨z0, z1, z2, z3, z4, z5, z6, z7, z8⟩ := hx3.c9; have HX3 := Lib.hid hx3; clear hb3 hx3)
            | (go_at_call 14; refine (HLI.out _ HX3.out.below).mono ?_; intro e w4 hp; obtain ⟨g1, d1, g2, d2, ys, rfl, hoL, htL, hoB, hb4⟩ := hp.named NL HNL.out; have HOL := Lib.hid hoL; have HTL := Lib.hid htL; have HX4 := Lib.hid (HX3.out.step hb4); clear hp hoL htL hoB hb4))
          go_ret
          exact ⟨rfl, HX2.out.below⟩
        by_cases h2 : 16 < Y
        · obtain rfl : K = 8 := by rw [HKR.out]; simp [h2]
          clear HKR
          go_wp2_with (first
            | (go_at_call 29; refine (HNO.out _ HXR.out.below).mono ?_; rintro e w2 ⟨rfl, hb2⟩; have hx2 := HXR.out.step hb2; obtain ⟨y0, y1, y2, y3, y4, y5, y6, y7, y8⟩ := hx2.c9; have HX2 := Lib.hid hx2; clear hb2 hx2)
            | (go_at_call 30; refine (HAT.out _ HX2.out.below).mono ?_; rintro e w3 ⟨rfl, hb3⟩; have hx3 := HX2.out.step hb3; obtain ⟨z0, z1, z2, z3, z4, z5, z6, z7, z8⟩ := hx3.c9; have HX3 := Lib.hid hx3; clear hb3 hx3)
            | (go_at_call 14; refine (HLI.out _ HX3.out.below).mono ?_; intro e w4 hp; obtain ⟨g1, d1, g2, d2, ys, rfl, hoL, htL, hoB, hb4⟩ := hp.named NL HNL.out; have HOL := Lib.hid hoL; have HTL := Lib.hid htL; have HX4 := Lib.hid (HX3.out.step hb4); clear hp hoL htL hoB hb4))
          go_ret
          exact ⟨rfl, HX3.out.below⟩
        by_cases h3 : 4 < Z
        · obtain rfl : K = 8 := by rw [HKR.out]; simp [h3]
          clear HKR
          go_wp2_with (first
            | (go_at_call 29; refine (HNO.out _ HXR.out.below).mono ?_; rintro e w2 ⟨rfl, hb2⟩; have hx2 := HXR.out.step hb2; obtain ⟨y0, y1, y2, y3, y4, y5, y6, y7, y8⟩ := hx2.c9; have HX2 := Lib.hid hx2; clear hb2 hx2)
            | (go_at_call 30; refine (HAT.out _ HX2.out.below).mono ?_; rintro e w3 ⟨rfl, hb3⟩; have hx3 := HX2.out.step hb3; obtain ⟨z0, z1, z2, z3, z4, z5, z6, z7, z8⟩ := hx3.c9; have HX3 := Lib.hid hx3; clear hb3 hx3)
            | (go_at_call 14; refine (HLI.out _ HX3.out.below).mono ?_; intro e w4 hp; obtain ⟨g1, d1, g2, d2, ys, rfl, hoL, htL, hoB, hb4⟩ := hp.named NL HNL.out; have HOL := Lib.hid hoL; have HTL := Lib.hid htL; have HX4 := Lib.hid (HX3.out.step hb4); clear hp hoL htL hoB hb4))
          go_ret
          exact ⟨rfl, HX3.out.below⟩
        have HKS := Lib.hid (show K = lim8 ((L.drop 0).any fun p => viol p.1) by rw [HKR.out, if_neg (by simp [h1, h2, h3])]; rfl)
        clear HKR
        go_wp2_with (first
          | (go_at_call 29; refine (HNO.out _ HXR.out.below).mono ?_; rintro e w2 ⟨rfl, hb2⟩; have hx2 := HXR.out.step hb2; obtain ⟨y0, y1, y2, y3, y4, y5, y6, y7, y8⟩ := hx2.c9; have HX2 := Lib.hid hx2; clear hb2 hx2)
          | (go_at_call 30; refine (HAT.out _ HX2.out.below).mono ?_; rintro e w3 ⟨rfl, hb3⟩; have hx3 := HX2.out.step hb3; obtain ⟨z0, z1, z2, z3, z4, z5, z6, z7, z8⟩ := hx3.c9; have HX3 := Lib.hid hx3; clear hb3 hx3)
          | (go_at_call 14; refine (HLI.out _ HX3.out.below).mono ?_; intro e w4 hp; obtain ⟨g1, d1, g2, d2, ys, rfl, hoL, htL, hoB, hb4⟩ := hp.named NL HNL.out; have HOL := Lib.hid hoL; have HTL := Lib.hid htL; have HX4 := Lib.hid (HX3.out.step hb4); clear hp hoL htL hoB hb4))
        have hs4 := HX4.out.below.size
        go_loopw [55] (fun a_ wr => ∃ (i : Nat), i ≤ NL ∧ a_ = .int .i64 i ∧ Below w4.heap.size w4 wr ∧ Hid (K = lim8 ((L.drop i).any fun p => viol p.1))) (fun a_ _ => NL - (intOf a_).toNat)
        case atStart => exact ⟨0, Nat.zero_le _, rfl, Below.refl _ _, HKS⟩
        case round =>
          obtain ⟨j, hj, rfl, hbr, hr⟩ := hrel
          by_cases hlt2 : j < NL
          · obtain ⟨td, B1, m1, e1, B2, m2, e2, k', neg', nm', ex', rl', tr', al', htd, hTd, hk', hnm', g0, g1', g2', g3, g4, g5, g6, g7, g8⟩ := row_tree HOL.out HTL.out (by rw [List.length_map]; exact HNL.out) hbr j hlt2
            obtain ⟨p, hp⟩ : ∃ p, L[j]? = some p := ⟨_, List.getElem?_eq_getElem (by have := HNL.out; omega)⟩
            obtain rfl : p.1 = td := by rw [List.getElem?_map, hp] at htd; simpa using htd
            have hr2 := hr.out
            rw [any_drop_step (fun p => viol p.1) hp] at hr2
            obtain ⟨hsmp, hat⟩ := HFK.out p (List.mem_of_getElem? hp)
            obtain ⟨va, vk, xs, hcs, hab, _, _, hks, htr⟩ := hTd.cells
            simp only [hdC, List.cons.injEq, and_true] at hcs
            obtain ⟨-, -, rfl, -, eex, -, -, -, rfl⟩ := hcs
            have eex : ex' = p.1.h.exp := by injection eex
            obtain ⟨W, hW⟩ : ∃ W, wr.alloc (.cells #[.int .i64 k', .bool neg', .slice B1 m1 e1, .string nm', .int .i64 ex', .int .i64 rl', .bool tr', .bool al', .slice B2 m2 e2] TT) = W := ⟨_, rfl⟩
            have hxw : Box wr W wr.heap.size #[.int .i64 k', .bool neg', .slice B1 m1 e1, .string nm', .int .i64 ex', .int .i64 rl', .bool tr', .bool al', .slice B2 m2 e2] TT := by rw [← hW]; exact Box.new wr _ _
            have hbW : Below w4.heap.size w4 W := hbr.trans (hxw.below.mono hbr.size)
            obtain ⟨b0, b1, b2, b3, b4, b5, b6, b7, b8⟩ := hxw.c9
            obtain ⟨rest, hrest⟩ : ∃ r, r = (L.drop (j + 1)).any (fun p => viol p.1) := ⟨_, rfl⟩
            rw [← hrest] at hr2
            have HRS := Lib.hid hrest
            have HXW := Lib.hid hxw
            have HBW := Lib.hid hbW
            have HWW := Lib.hid hW
            have hS4 : ∀ b, S b → b < w4.heap.size := fun b h => by have := HS.out b h; omega
            have habW := hab.below hS4 hbW
            have hksW := hks.below hS4 hbW
            have htrW := htr.below hS4 hbW
            have hSW : ∀ b, S b → b < W.heap.size := fun b h => Nat.lt_of_lt_of_le (hS4 b h) hbW.size
            have hsab := sm_abs hsmp
            by_cases h1k : k' = 1
            · subst h1k
              have hv : viol p.1 = decide (40 < digN (valN p.1.h.abs)) := by unfold viol; simp [hk']
              obtain ⟨dg, hdg⟩ : ∃ d, d = digN (valN p.1.h.abs) := ⟨_, rfl⟩
              rw [hv, ← hdg] at hr2
              have HDG := Lib.hid (show Calls Try.prog 31 #[.agg #[.bool neg', .slice B1 m1 e1]] W (NumPost dg W) from by rw [hdg]; exact rdigits_any neg' _ _ S W hSW habW (by omega))
              by_cases h40 : 40 < dg
              · obtain rfl : K = 8 := by rw [hr2]; simp [h40, lim8]
                clear hr2 hv hdg hrest hr hp hk' hnm' htd hTd hab hks htr hat hsmp habW hksW htrW hSW hS4 hsab hxw hbW
                go_wp2_with (go_at_call 31; refine HDG.out.mono ?_; rintro e w5 ⟨rfl, hb5⟩; have hx5 := HXW.out.step hb5; obtain ⟨c0, c1, c2, c3, c4, c5, c6, c7, c8⟩ := hx5.c9; have HB5 := Lib.hid hb5; clear hb5 hx5)
                go_ret
                exact ⟨rfl, HX4.out.below.trans ((HBW.out.trans (HB5.out.mono HBW.out.size)).mono HX4.out.below.size)⟩
              · have HK2 := Lib.hid (show K = lim8 ((L.drop (j + 1)).any fun p => viol p.1) by rw [hr2, hrest]; simp [h40])
                clear hr2 hv hdg hrest hr hp hk' hnm' htd hTd hab hks htr hat hsmp habW hksW htrW hSW hS4 hsab hxw hbW
                go_wp2_with (go_at_call 31; refine HDG.out.mono ?_; rintro e w5 ⟨rfl, hb5⟩; have hx5 := HXW.out.step hb5; obtain ⟨c0, c1, c2, c3, c4, c5, c6, c7, c8⟩ := hx5.c9; have HB5 := Lib.hid hb5; clear hb5 hx5)
                refine ⟨⟨j + 1, by omega, rfl, HBW.out.trans (HB5.out.mono HBW.out.size), HK2⟩, ?_⟩
                show NL - ((j : Int) + 1).toNat < NL - (j : Int).toNat
                omega
            have hk1 : (k' == 1) = false := by simpa using h1k
            by_cases h7k : k' = 7
            · subst h7k
              have hv : viol p.1 = decide (8 < ex') := by unfold viol; rw [eex]; simp [hk']
              rw [hv] at hr2
              by_cases h8 : 8 < ex'
              · obtain rfl : K = 8 := by rw [hr2]; simp [h8, lim8]
                clear hr2 hv hrest hr hp hk' hnm' htd hTd hab hks htr hat hsmp habW hksW htrW hSW hS4 hsab hxw hbW eex h1k
                go_wp2
                go_ret
                exact ⟨rfl, HX4.out.below.trans (HBW.out.mono HX4.out.below.size)⟩
              · have HK2 := Lib.hid (show K = lim8 ((L.drop (j + 1)).any fun p => viol p.1) by rw [hr2, hrest]; simp [h8])
                clear hr2 hv hrest hr hp hk' hnm' htd hTd hab hks htr hat hsmp habW hksW htrW hSW hS4 hsab hxw hbW eex h1k
                go_wp2
                refine ⟨⟨j + 1, by omega, rfl, HBW.out, HK2⟩, ?_⟩
                show NL - ((j : Int) + 1).toNat < NL - (j : Int).toNat
                omega
            have hk7 : (k' == 7) = false := by simpa using h7k
            by_cases h9k : k' = 9
            · subst h9k
              obtain ⟨a, bb, x, y, hkids, hra, hrb⟩ := hat hk'
              have hv : viol p.1 = p.1.kids.any kidB := by unfold viol; simp [hk']
              have hm2 : m2 = p.1.kids.length := by
                obtain ⟨A', c', e⟩ := hks.form
                injection e
              have hl2 : p.1.kids.length = 2 := by rw [hkids]; rfl
              rw [hl2] at hm2
              subst hm2
              rw [hv] at hr2
              rw [hl2] at hksW
              have HKL := Lib.hid (show ∀ (q : Nat) (kd : Tr), p.1.kids[q]? = some kd → Sm kd ∧ ∃ u, RT kd u from fun q kd hkd => ⟨sm_kid hsmp hkd, by
                rw [hkids] at hkd
                match q, hkd with
                | 0, hkd => simp at hkd; subst hkd; exact ⟨x, hra⟩
                | 1, hkd => simp at hkd; subst hkd; exact ⟨y, hrb⟩
                | q + 2, hkd => simp at hkd⟩)
              have HKSW := Lib.hid hksW
              have HTRW := Lib.hid htrW
              have HSW := Lib.hid hSW
              have HL2 := Lib.hid hl2
              obtain ⟨kids, hks0⟩ : ∃ l, l = p.1.kids := ⟨_, rfl⟩
              rw [← hks0] at hr2 HKL HTRW HL2
              have HR0 := Lib.hid (show K = lim8 ((kids.drop 0).any kidB || rest) from hr2)
              clear hr2 hv hrest hr hp hk' hnm' htd hTd hab hks htr hat hsmp habW hksW htrW hSW hS4 hsab hxw hbW eex h1k h7k hkids hra hrb hl2 hks0 hk1 hk7
              go_wp2
              go_loopw [87] (fun a_ wr => ∃ (q : Nat), q ≤ 2 ∧ a_ = .int .i64 q ∧ Below W.heap.size W wr ∧ Hid (K = lim8 ((kids.drop q).any kidB || rest))) (fun a_ _ => 2 - (intOf a_).toNat)
              case atStart => exact ⟨0, by omega, rfl, Below.refl _ _, HR0⟩
              case round =>
                obtain ⟨q, hq, rfl, hbr2, hr⟩ := hrel
                have hx6 := HXW.out.step hbr2
                obtain ⟨a0, a1, a2, a3, a4, a5, a6, a7, a8⟩ := hx6.c9
                have HX6 := Lib.hid hx6
                have hbE : Below w.heap.size w wr := HX4.out.below.trans ((HBW.out.trans (hbr2.mono HBW.out.size)).mono HX4.out.below.size)
                have HBE := Lib.hid hbE
                by_cases hlt3 : q < 2
                · obtain ⟨kd, b, o, A0, n0, c0, B0, m0, d0, hkd, he0, hb0, hT0, f0, f1, f2, f3, f4, f5, f6, f7, f8⟩ := kid_cells (HKSW.out.below HSW.out hbr2) (HTRW.out.below HSW.out hbr2) HL2.out.symm q hlt3
                  subst he0
                  obtain ⟨hsk, u, hru⟩ := HKL.out q kd hkd
                  have hr3 := hr.out
                  rw [any_drop_step kidB hkd] at hr3
                  have hkb : kidB kd = (decide (8 < degT u) || decide (320 < wgtT u)) := by unfold kidB; rw [degR_of hru, wgtR_of hru]
                  rw [hkb] at hr3
                  have hSr : ∀ b, S b → b < wr.heap.size := fun b h => Nat.lt_of_lt_of_le (HSW.out b h) hbr2.size
                  obtain ⟨dg, hdg⟩ : ∃ d, d = degT u := ⟨_, rfl⟩
                  obtain ⟨wg, hwg⟩ : ∃ d, d = wgtT u := ⟨_, rfl⟩
                  rw [← hdg, ← hwg] at hr3
                  have hD := rdeg_any hru _ S wr hSr hT0 hsk
                  rw [← hdg] at hD
                  have hWt : ∀ w', Below wr.heap.size wr w' → Calls Try.prog 33 #[.agg (hdC kd.h (.slice A0 n0 c0) (.slice B0 m0 d0)).toArray] w' (NumPost wg w') := fun w' hb => by rw [hwg]; exact rwgt_any hru _ S w' (fun b h => Nat.lt_of_lt_of_le (hSr b h) hb.size) (hT0.below hSr hb) hsk
                  unfold hdC at hD hWt
                  have hbk : b < wr.heap.size := hSr b hb0
                  have HKC := Lib.hid (show ∀ w', Below wr.heap.size wr w' → w'.cell? ⟨b, o + q * 9, none⟩ = some (.int .i64 kd.h.k) ∧ w'.cell? ⟨b, o + q * 9 + 1, none⟩ = some (.bool kd.h.neg) ∧ w'.cell? ⟨b, o + q * 9 + 2, none⟩ = some (.slice A0 n0 c0) ∧ w'.cell? ⟨b, o + q * 9 + 3, none⟩ = some (.string kd.h.name) ∧ w'.cell? ⟨b, o + q * 9 + 4, none⟩ = some (.int .i64 kd.h.exp) ∧ w'.cell? ⟨b, o + q * 9 + 5, none⟩ = some (.int .i64 kd.h.rel) ∧ w'.cell? ⟨b, o + q * 9 + 6, none⟩ = some (.bool kd.h.truth) ∧ w'.cell? ⟨b, o + q * 9 + 7, none⟩ = some (.bool kd.h.all) ∧ w'.cell? ⟨b, o + q * 9 + 8, none⟩ = some (.slice B0 m0 d0) from fun w' hb =>
                    ⟨(hb.cell (p := ⟨b, o + q * 9, none⟩) hbk).trans f0, (hb.cell (p := ⟨b, o + q * 9 + 1, none⟩) hbk).trans f1, (hb.cell (p := ⟨b, o + q * 9 + 2, none⟩) hbk).trans f2, (hb.cell (p := ⟨b, o + q * 9 + 3, none⟩) hbk).trans f3, (hb.cell (p := ⟨b, o + q * 9 + 4, none⟩) hbk).trans f4, (hb.cell (p := ⟨b, o + q * 9 + 5, none⟩) hbk).trans f5, (hb.cell (p := ⟨b, o + q * 9 + 6, none⟩) hbk).trans f6, (hb.cell (p := ⟨b, o + q * 9 + 7, none⟩) hbk).trans f7, (hb.cell (p := ⟨b, o + q * 9 + 8, none⟩) hbk).trans f8⟩)
                  have HD := Lib.hid hD
                  have HWT := Lib.hid hWt
                  have HR3 := Lib.hid hr3
                  have HBR2 := Lib.hid hbr2
                  have hq1 : (0 : Int) ≤ q ∧ (q : Int) < 2 := by omega
                  clear hD hWt hr3 hbr2 hbk hdg hwg hSr hkb hru hsk hT0 hb0 hkd hr hx6 hbE
                  by_cases hd8 : 8 < dg
                  · obtain rfl : K = 8 := by rw [HR3.out]; simp [hd8, lim8]
                    clear HR3
                    go_wp2_with (first
                      | (go_at_call 32; refine HD.out.mono ?_; rintro e w5 ⟨rfl, hb5⟩; have hx5 := HX6.out.step hb5; obtain ⟨c0, c1, c2, c3, c4, c5, c6, c7, c8⟩ := hx5.c9; obtain ⟨t0, t1, t2, t3, t4, t5, t6, t7, t8⟩ := HKC.out w5 hb5; have HB5 := Lib.hid hb5; clear hb5 hx5)
                      | (go_at_call 33; refine (HWT.out _ HB5.out).mono ?_; rintro e w6 ⟨rfl, hb6⟩; have HB6 := Lib.hid (HB5.out.trans (hb6.mono HB5.out.size)); clear hb6))
                    go_ret
                    exact ⟨rfl, HBE.out.trans (HB5.out.mono HBE.out.size)⟩
                  by_cases hw8 : 320 < wg
                  · obtain rfl : K = 8 := by rw [HR3.out]; simp [hw8, lim8]
                    clear HR3
                    go_wp2_with (first
                      | (go_at_call 32; refine HD.out.mono ?_; rintro e w5 ⟨rfl, hb5⟩; have hx5 := HX6.out.step hb5; obtain ⟨c0, c1, c2, c3, c4, c5, c6, c7, c8⟩ := hx5.c9; obtain ⟨t0, t1, t2, t3, t4, t5, t6, t7, t8⟩ := HKC.out w5 hb5; have HB5 := Lib.hid hb5; clear hb5 hx5)
                      | (go_at_call 33; refine (HWT.out _ HB5.out).mono ?_; rintro e w6 ⟨rfl, hb6⟩; have HB6 := Lib.hid (HB5.out.trans (hb6.mono HB5.out.size)); clear hb6))
                    go_ret
                    exact ⟨rfl, HBE.out.trans (HB6.out.mono HBE.out.size)⟩
                  have HR4 := Lib.hid (show K = lim8 ((kids.drop (q + 1)).any kidB || rest) by rw [HR3.out]; simp [hd8, hw8])
                  clear HR3
                  go_wp2_with (first
                      | (go_at_call 32; refine HD.out.mono ?_; rintro e w5 ⟨rfl, hb5⟩; have hx5 := HX6.out.step hb5; obtain ⟨c0, c1, c2, c3, c4, c5, c6, c7, c8⟩ := hx5.c9; obtain ⟨t0, t1, t2, t3, t4, t5, t6, t7, t8⟩ := HKC.out w5 hb5; have HB5 := Lib.hid hb5; clear hb5 hx5)
                      | (go_at_call 33; refine (HWT.out _ HB5.out).mono ?_; rintro e w6 ⟨rfl, hb6⟩; have HB6 := Lib.hid (HB5.out.trans (hb6.mono HB5.out.size)); clear hb6))
                  refine ⟨⟨q + 1, by omega, rfl, HBR2.out.trans (HB6.out.mono HBR2.out.size), HR4⟩, ?_⟩
                  show 2 - ((q : Int) + 1).toNat < 2 - (q : Int).toNat
                  omega
                · have HK2 := Lib.hid (show K = lim8 ((L.drop (j + 1)).any fun p => viol p.1) by rw [hr.out, List.drop_of_length_le (by have := HL2.out; omega), HRS.out]; simp)
                  have HBR2 := Lib.hid hbr2
                  clear hr hx6 hbE hbr2
                  go_wp2
                  refine ⟨⟨j + 1, by omega, rfl, HBW.out.trans (HBR2.out.mono HBW.out.size), HK2⟩, ?_⟩
                  show NL - ((j : Int) + 1).toNat < NL - (j : Int).toNat
                  omega
            · have hk9 : (k' == 9) = false := by simpa using h9k
              have hv : viol p.1 = false := by unfold viol; simp [hk', h1k, h7k, h9k]
              have HK2 := Lib.hid (show K = lim8 ((L.drop (j + 1)).any fun p => viol p.1) by rw [hr2, hrest, hv]; simp)
              clear hr2 hv hrest hr hp hk' hnm' htd hTd hab hks htr hat hsmp habW hksW htrW hSW hS4 hsab hxw hbW eex h1k h7k h9k
              go_wp2
              refine ⟨⟨j + 1, by omega, rfl, HBW.out, HK2⟩, ?_⟩
              show NL - ((j : Int) + 1).toNat < NL - (j : Int).toNat
              omega
          · obtain rfl : K = 0 := by
              rw [hr.out, List.drop_of_length_le (by have := HNL.out; omega)]; rfl
            go_wp2
            go_ret
            exact ⟨rfl, HX4.out.below.trans (hbr.mono HX4.out.below.size)⟩
end Ch
end Go.Proofs.Yteneobpacobpdaa
