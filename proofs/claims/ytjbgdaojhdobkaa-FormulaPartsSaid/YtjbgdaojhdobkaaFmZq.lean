/-
  The reference's Free: a quantifier below others.
-/
import Derived.Test.YtjbgdaojhdobkaaFmZ
namespace Go.Proofs.Ytjbgdaojhdobkaa
open Go.RowKit
set_option linter.unusedSimpArgs false
set_option linter.unusedVariables false
namespace Fm
attribute [local go_sem] run_store

theorem empty1 (W : World) (o : Obj) (base : Nat) (e : TypeId) (size : Nat) (hB : base ≤ W.heap.size) : ((W.alloc o).alloc (.cells #[] e)).ownsRow base e size (.slice (some ⟨W.heap.size + 1, 0, none⟩) 0 0) 0 [] := by
  have h := ownsRow_empty (W.alloc o) base e size (by simp; omega)
  have hz : (W.alloc o).heap.size = W.heap.size + 1 := by simp
  rw [hz] at h
  exact h
theorem keepN1 {W' w4 : World} {x : Value} {t : TypeId} {o : Obj} {g : Nat} (h : ((W'.alloc (.cells #[x] t)).alloc o).drew.grownBy w4 (some g)) (hg : g ≠ W'.heap.size := by simp) : ∀ j u, [x][j]? = some u → w4.cell? ((⟨W'.heap.size, 0, none⟩ : Addr).add j) = some u := by
  intro j u hj
  match j, hj with
  | 0, hj =>
    simp at hj; subst hj
    have h1 := h.block W'.heap.size (by simp; omega) (fun e => hg (by injection e with e; exact e.symm))
    have h2 : ((W'.alloc (.cells #[x] t)).alloc o).drew.heap[W'.heap.size]? = some (.cells #[x] t (0, 0)) := (Below.heap_alloc _ _ _ (by simp)).trans (heap_alloc_new W' _)
    simpa [Addr.add] using cell_of_blk (h1.trans h2) (j := 0) rfl
theorem keepN2 {W' w4 : World} {x : Value} {t : TypeId} {o : Obj} {g : Nat} (h : ((W'.alloc o).alloc (.cells #[x] t)).drew.grownBy w4 (some g)) (hg : g ≠ W'.heap.size + 1 := by simp) : ∀ j u, [x][j]? = some u → w4.cell? ((⟨W'.heap.size + 1, 0, none⟩ : Addr).add j) = some u := by
  intro j u hj
  match j, hj with
  | 0, hj =>
    simp at hj; subst hj
    have h1 := h.block (W'.heap.size + 1) (by simp) (fun e => hg (by injection e with e; exact e.symm))
    have h2 : ((W'.alloc o).alloc (.cells #[x] t)).drew.heap[W'.heap.size + 1]? = some (.cells #[x] t (0, 0)) := by
      have h3 := heap_alloc_new (W'.alloc o) (.cells #[x] t)
      rw [show (W'.alloc o).heap.size = W'.heap.size + 1 by simp] at h3
      exact h3
    simpa [Addr.add] using cell_of_blk (h1.trans h2) (j := 0) rfl
theorem bd_new {W w5 : World} {g2 k2 N : Nat} {bd : List ByteArray} {name : ByteArray} (h : w5.ownsRow W.heap.size tStr 1 (.slice (some ⟨g2, 0, none⟩) (N + 1) k2) (N + 1) (bd.map Value.string ++ [Value.string name])) (hN : N = bd.length) (hl : bd.length ≤ 900000 := by omega) :
    BdAt w5 (fun b => W.heap.size ≤ b ∧ b < w5.heap.size) (.slice (some ⟨g2, 0, none⟩) (N + 1) k2) (bd ++ [name]) := by
  refine ⟨⟨?_, by simp; omega⟩, fun h => by simp at h⟩
  have e1 : (bd ++ [name]).length = N + 1 := by simp [hN]
  have e2 : (bd ++ [name]).map Value.string = bd.map Value.string ++ [Value.string name] := by simp
  rw [e1, e2]
  exact SS.of_own h
theorem _root_.Go.World.ownsRow.lt2 {w : World} {base size n : Nat} {e : TypeId} {v : Value} {xs : List Value} (h : w.ownsRow base e size v n xs) : ∀ k, v.ownBlock = some k → base ≤ k := fun k hk => (h.lt k hk).1

set_option maxRecDepth 100000 in
set_option maxHeartbeats 8000000 in
theorem fr_quant (neg : Bool) (abs : List Nat) (name : ByteArray) (exp rel : Int) (truth all : Bool) (ks : List Tr) (ih : ∀ k ∈ ks, FrOk k) : FrOkN (.mk ⟨15, neg, abs, name, exp, rel, truth, all⟩ ks) := by
  intro cs vb vo S Sb bd out B w hne hB hS hSb hT hbd hown hno hnb
  obtain ⟨A1, n1, c1, A2, K, c2, xs, rfl, hK, hKc, hK64, hn1', hnm, hab, hks, htr⟩ := hT.mkN
  have hnm' : name.size ≤ 9223372036854775807 := hnm
  obtain ⟨A3, c3, rfl⟩ := hbd.1.form
  obtain ⟨A4, c4, rfl⟩ := row_slice hown
  unfold hdC
  obtain ⟨W, hW⟩ : ∃ W, w.alloc (.cells #[.int .i64 15, .bool neg, .slice A1 n1 c1, .string name, .int .i64 exp, .int .i64 rel, .bool truth, .bool all, .slice A2 K c2] TT) = W := ⟨_, rfl⟩
  have hx : Box w W w.heap.size #[.int .i64 15, .bool neg, .slice A1 n1 c1, .string name, .int .i64 exp, .int .i64 rel, .bool truth, .bool all, .slice A2 K c2] TT := by rw [← hW]; exact Box.new w _ _
  obtain ⟨b0, b1, b2, b3, b4, b5, b6, b7, b8⟩ := hx.c9
  have hnb1 : bd.length + nnL ks + 1 ≤ 900000 := by unfold nn at hnb; omega
  have hno1 : out.length + nnL ks + 1 ≤ 900000 := by unfold nn at hno; omega
  have HX := Lib.hid hx
  have hWs : w.heap.size < W.heap.size := hx.lt
  have HOL := Lib.hid hown.lt
  have HTR := Lib.hid (htr.below (fun b hb => Nat.lt_of_lt_of_le (hS b hb) hB) hx.below)
  have HKS := Lib.hid (hks.below (fun b hb => Nat.lt_of_lt_of_le (hS b hb) hB) hx.below)
  have HK := Lib.hid hK
  have HBD := Lib.hid (show BdAt W Sb (.slice A3 bd.length c3) bd from ⟨hbd.1.below (fun b hb => (hSb b hb).1) hx.below, hbd.2⟩)
  have HO := Lib.hid (ownsRow_keep hown (fun b hb => hx.below.block b (hown.lt b hb).2))
  have IH := Lib.hid ih
  have HS := Lib.hid hS
  have HSB := Lib.hid (show ∀ b, Sb b → b < W.heap.size ∧ ¬ (Value.slice A4 out.length c4).ownBlock = some b from fun b hb => ⟨Nat.lt_of_lt_of_le (hSb b hb).1 hx.below.size, (hSb b hb).2⟩)
  clear hx htr hks hK hbd hown ih hT hS hSb hab hn1' hno hnb hnm
  have HFR := Lib.hid (show freeR (.mk ⟨15, neg, abs, name, exp, rel, truth, all⟩ ks) bd out = freeRL ks (bd ++ [name]) out by unfold freeR; rw [if_neg (by simp), if_pos rfl])
  obtain ⟨i0, hi0, hz0, hz1, hz2⟩ := info_parts infoStr
  have hlen0 : 0 < bd.length := List.length_pos_iff.2 hne
  obtain ⟨b, o, rfl, hb, hsrc⟩ := HBD.out.1.1.at_ hlen0
  have hbw := (HSB.out b hb).1
  have HSRC := Lib.hid (show ∀ wc : World, Below W.heap.size W wc → ∀ j u, (bd.map Value.string)[j]? = some u → wc.cell? ((⟨b, o, none⟩ : Addr).add j) = some u from fun wc hwc j u hj => by
    have e : (⟨b, o, none⟩ : Addr).add j = ⟨b, o + j, none⟩ := by
      unfold Addr.add; split
      · rename_i h5; simp [h5]
      · rfl
    rw [e]
    exact (hwc.cell (p := ⟨b, o + j, none⟩) hbw).trans (hsrc j u hj))
  obtain ⟨N, hN⟩ : ∃ N, N = bd.length := ⟨_, rfl⟩
  have HNB := Lib.hid hN
  rw [← hN] at hlen0 hnb1 ⊢
  clear hN hsrc hne hb
  go_enter Try.func64, Try.ntmps64
  go_wp2_with fail
  clear hW
  go_region_law (first | ((refine step_append_lies _ (by rfl) (.tmp 33) (.tmp 34) 48 rfl W.heap.size tStr i0 _ 1 16 Try.underlying48 hi0 hz0 hz1 hz2 rfl (by decide) (.slice (some ⟨W.heap.size, 0, none⟩) 0 0) 0 [] rfl (by first | exact ownsRow_empty W _ _ _ (Nat.le_refl _) | exact (ownsRow_empty W _ _ _ (Nat.le_refl _)).alloc _) ⟨b, o, none⟩ N c3 (bd.map Value.string) rfl (by rw [List.length_map]; have := HNB.out; omega) (HSRC.out _ (by first | exact (Below.refl _ W).drew.alloc (Nat.le_refl _) _ | exact ((Below.refl _ W).drew.alloc (Nat.le_refl _) _).alloc (by simp) _)) (by intro u hu; obtain ⟨x, _, rfl⟩ := List.mem_map.1 hu; rfl) (by omega) (by unfold maxLen; omega) (by omega) (by first | (simp; done) | (simp; omega)) _ rfl ?_); intro g1 cp1 w4 ho1 hgr1 hat1 hlt1; simp only [Nat.zero_add, List.nil_append] at ho1; have HO4 := Lib.hid ho1; have HGR := Lib.hid (show World.grownBy _ w4 (some W.heap.size) from hgr1); have HB4 : Hid (Below W.heap.size W w4) := Lib.hid (by first | exact ((Below.refl _ W).drew.alloc (Nat.le_refl _) _).grown hgr1 (by first | (simp; done) | (simp; omega)) (by intro k hk; cases hk; first | (simp; done) | (simp; omega)) | exact (((Below.refl _ W).drew.alloc (Nat.le_refl _) _).alloc (by simp) _).grown hgr1 (by first | (simp; done) | (simp; omega)) (by intro k hk; cases hk; first | (simp; done) | (simp; omega))); have hz4 := HB4.out.size; have e3 : w4.cell? ⟨w.heap.size, 3, none⟩ = some (.string name) := (HX.out.step HB4.out).cell 3; clear ho1 hgr1 hat1 hlt1) | ((refine step_append_lies _ (by rfl) (.tmp 33) (.tmp 34) 48 rfl W.heap.size tStr i0 _ 1 16 Try.underlying48 hi0 hz0 hz1 hz2 rfl (by decide) (.slice (some ⟨W.heap.size + 1, 0, none⟩) 0 0) 0 [] rfl (empty1 W _ _ _ _ (Nat.le_refl _)) ⟨b, o, none⟩ N c3 (bd.map Value.string) rfl (by rw [List.length_map]; have := HNB.out; omega) (HSRC.out _ (by first | exact (Below.refl _ W).drew.alloc (Nat.le_refl _) _ | exact ((Below.refl _ W).drew.alloc (Nat.le_refl _) _).alloc (by simp) _)) (by intro u hu; obtain ⟨x, _, rfl⟩ := List.mem_map.1 hu; rfl) (by omega) (by unfold maxLen; omega) (by omega) (by first | (simp; done) | (simp; omega)) _ rfl ?_); intro g1 cp1 w4 ho1 hgr1 hat1 hlt1; simp only [Nat.zero_add, List.nil_append] at ho1; have HO4 := Lib.hid ho1; have HGR := Lib.hid (show World.grownBy _ w4 (some (W.heap.size + 1)) from hgr1); have HB4 : Hid (Below W.heap.size W w4) := Lib.hid (by first | exact ((Below.refl _ W).drew.alloc (Nat.le_refl _) _).grown hgr1 (by first | (simp; done) | (simp; omega)) (by intro k hk; cases hk; first | (simp; done) | (simp; omega)) | exact (((Below.refl _ W).drew.alloc (Nat.le_refl _) _).alloc (by simp) _).grown hgr1 (by first | (simp; done) | (simp; omega)) (by intro k hk; cases hk; first | (simp; done) | (simp; omega))); have hz4 := HB4.out.size; have e3 : w4.cell? ⟨w.heap.size, 3, none⟩ = some (.string name) := (HX.out.step HB4.out).cell 3; clear ho1 hgr1 hat1 hlt1) | ((first | (refine step_append_lies _ (by rfl) (.tmp 35) (.tmp 38) 48 rfl W.heap.size tStr i0 _ 1 16 Try.underlying48 hi0 hz0 hz1 hz2 rfl (by decide) (.slice (some ⟨g1, 0, none⟩) N cp1) N (bd.map Value.string) rfl (by first | exact HO4.out | exact HO4.out.alloc _) ⟨w4.heap.size, 0, none⟩ 1 1 [.string name] rfl rfl (by first | exact cell_one_new _ _ _) (by intro u hu; simp at hu; rw [hu]; rfl) (by omega) (by unfold maxLen; omega) (by omega) (by first | omega | (simp; omega)) _ rfl ?_) | (refine step_append_lies _ (by rfl) (.tmp 35) (.tmp 38) 48 rfl W.heap.size tStr i0 _ 1 16 Try.underlying48 hi0 hz0 hz1 hz2 rfl (by decide) (.slice (some ⟨g1, 0, none⟩) N cp1) N (bd.map Value.string) rfl (by first | exact HO4.out | exact HO4.out.alloc _) ⟨W.heap.size, 0, none⟩ 1 1 [.string name] rfl rfl (by first | exact keepN1 HGR.out) (by intro u hu; simp at hu; rw [hu]; rfl) (by omega) (by unfold maxLen; omega) (by omega) (by first | omega | (simp; omega)) _ rfl ?_) | (refine step_append_lies _ (by rfl) (.tmp 35) (.tmp 38) 48 rfl W.heap.size tStr i0 _ 1 16 Try.underlying48 hi0 hz0 hz1 hz2 rfl (by decide) (.slice (some ⟨g1, 0, none⟩) N cp1) N (bd.map Value.string) rfl (by first | exact HO4.out | exact HO4.out.alloc _) ⟨W.heap.size + 1, 0, none⟩ 1 1 [.string name] rfl rfl (by first | exact keepN2 HGR.out) (by intro u hu; simp at hu; rw [hu]; rfl) (by omega) (by unfold maxLen; omega) (by omega) (by first | omega | (simp; omega)) _ rfl ?_)); intro g2 cp2 w5 ho2 hgr2 hat2 hlt2; have HO5 := Lib.hid ho2; have HB5 : Hid (Below W.heap.size W w5) := Lib.hid (by first | exact HB4.out.grown hgr2 HB4.out.size (HO4.out.lt2) | exact (HB4.out.alloc HB4.out.size _).grown hgr2 (by simp; have := HB4.out.size; omega) HO4.out.lt2); clear ho2 hgr2 hat2 hlt2))
  all_goals
    have hq8 : w5.cell? ⟨w.heap.size, 8, none⟩ = some (.slice A2 K c2) := (HX.out.step HB5.out).cell 8
    go_wp2
    have HB1 := Lib.hid (HX.out.below.trans (HB5.out.mono HX.out.below.size))
    have HO1 := Lib.hid (ownsRow_keep HO.out (fun b hb => HB5.out.block b (HO.out.lt b hb).2))
    have HBD1 := Lib.hid (bd_new (name := name) HO5.out HNB.out (by have := HNB.out; omega))
    have HSB1 := Lib.hid (show ∀ b, (W.heap.size ≤ b ∧ b < w5.heap.size) → b < w5.heap.size ∧ ¬ (Value.slice A4 out.length c4).ownBlock = some b from fun b hb => ⟨hb.2, fun h => by have h1 := (HOL.out b h).2; omega⟩)
    have HTR1 := Lib.hid (HTR.out.below (fun b hb => by have := HS.out b hb; omega) HB5.out)
    have HKS1 := Lib.hid (HKS.out.below (fun b hb => by have := HS.out b hb; omega) HB5.out)
    have hnb2 : bd.length + nnL ks + 1 ≤ 900000 := by have := HNB.out; omega
    clear b0 b1 b2 b3 b4 b5 b6 b7 b8 e3
    have HQ8 := Lib.hid hq8
    go_loopw [2, 43] (fun s_ a_ wr => ∃ (i : Nat), i ≤ K ∧ a_ = .int .i64 i ∧ QRel B (.slice A4 out.length c4) (freeRL (ks.take i) (bd ++ [name]) out) w5 wr s_) (fun _ a_ _ => K - (intOf a_).toNat)
    case atStart => exact ⟨0, Nat.zero_le _, rfl, by simpa [freeRL] using HO1.out, Owns.refl _ _⟩
    case round =>
      obtain ⟨i, hi, rfl, hown, ho⟩ := hrel
      have hbs := HB1.out.size
      have q8 : wr.cell? ⟨w.heap.size, 8, none⟩ = some (.slice A2 K c2) := (ho.cell (p := ⟨w.heap.size, 8, none⟩) (cell_lt HQ8.out) (fun h => by have h1 := (HOL.out _ h).2; simp at h1)).trans HQ8.out
      by_cases hlt : i < K
      · have hSo : ∀ b, S b → b < w5.heap.size ∧ ¬ (Value.slice A4 out.length c4).ownBlock = some b := fun b hb => ⟨by have := HS.out b hb; omega, fun h => by have h1 := (HOL.out b h).1; have h2 := HS.out b hb; omega⟩
        have hkeep : ∀ p : Addr, S p.block → wr.cell? p = w5.cell? p := fun p hp => ho.cell (hSo _ hp).1 (hSo _ hp).2
        obtain ⟨kd, b, o, B1, m1, e1', B2, m2, e2', hkd, rfl, hb, hTk, k0, k1, k2, k3, k4, k5, k6, k7, k8⟩ := kid_cells (HKS1.out.keep hkeep) (TrsC.keep hkeep _ _ HTR1.out) HK.out i hlt
        have h1 := freeRL_len (ks.take i) (bd ++ [name]) out
        have h2 := nnL_take_succ ks i kd hkd
        have h3 := nnL_take ks (i + 1)
        have hC := IH.out kd (mem_at hkd) _ (.slice (some ⟨g2, 0, none⟩) (N + 1) cp2) u2 S (fun b => W.heap.size ≤ b ∧ b < w5.heap.size) (bd ++ [name]) (freeRL (ks.take i) (bd ++ [name]) out) B wr (by have := ho.size; omega) HS.out (S_owns ho HSB1.out) hTk ⟨HBD1.out.1.keep (fun p hp => ho.cell (HSB1.out _ hp).1 (HSB1.out _ hp).2), HBD1.out.2⟩ hown (by omega) (by rw [List.length_append]; simp only [List.length_cons, List.length_nil]; omega)
        unfold hdC at hC
        have HC := Lib.hid hC
        have HFL := Lib.hid (freeRL_take ks i kd hkd (bd ++ [name]) out)
        have HOO := Lib.hid ho
        clear hC hkd hTk h1 h2 h3 ho hown hkeep hb hSo
        go_wp2_with (first | (go_at_call 64; refine HC.out.mono ?_; intro e w2 hp; obtain ⟨v', rfl, hv', ho'⟩ := hp; have HV := Lib.hid hv'; have HO' := Lib.hid ho'; clear hv' ho'))
        go_roundw
        case rel =>
          exact ⟨i + 1, by omega, by go_num, by rw [HFL.out]; exact HV.out, HOO.out.trans HO'.out⟩
        case measure => simp [intOf]; omega
      · have HOW := Lib.hid hown
        have HOO := Lib.hid ho
        have HI := Lib.hid (show ks.take i = ks from List.take_of_length_le (by rw [← HK.out]; omega))
        clear hown ho
        go_wp2
        go_ret
        have hown := HOW.out
        rw [HI.out] at hown
        refine ⟨u2, rfl, ?_, (Owns.of_below HB1.out _).trans HOO.out⟩
        rw [HFR.out]; exact hown

end Fm
end Go.Proofs.Ytjbgdaojhdobkaa
