/-
  The reference's Free: the first quantifier.
-/
import Derived.Test.YtjbgdaojhdobkaaFmZq
namespace Go.Proofs.Ytjbgdaojhdobkaa
open Go.RowKit
set_option linter.unusedSimpArgs false
set_option linter.unusedVariables false
namespace Fm
attribute [local go_sem] run_store

theorem newsA (W : World) (o : Obj) (x : Value) (t : TypeId) : ∀ j u, [x][j]? = some u → ((W.alloc o).alloc (.cells #[x] t)).cell? ((⟨W.heap.size + 1, 0, none⟩ : Addr).add j) = some u := by
  intro j u hj
  have h3 := cell_one_new (W.alloc o) x t j u hj
  rw [show (W.alloc o).heap.size = W.heap.size + 1 by simp] at h3
  exact h3
theorem newsB (W : World) (x : Value) (t : TypeId) (o : Obj) : ∀ j u, [x][j]? = some u → ((W.alloc (.cells #[x] t)).alloc o).cell? ((⟨W.heap.size, 0, none⟩ : Addr).add j) = some u := by
  intro j u hj
  rw [World.cell?_alloc_lt _ _ _ (by rw [add_block]; simp)]
  exact cell_one_new W x t j u hj
theorem step_append_none {P : Program} (w : World) {ops : Array Oper} {o : Oper} {a : Act} {K : Act → World → Prop} {Q : Exit → Act → World → Prop} {E : Prop} (hgd : o.guard = none) (s x : Operand) (t : TypeId)
    (ho : o.op = .call { callee := .builtin .append, args := #[s, x], argTypes := #[t, t] })
    (base : Nat) (e : TypeId) (i : TypeInfo) (size : Nat) (ht : P.underlying t = some (.slice e)) (hi : P.info? e = some i)
    (v : Value) (n : Nat) (xs : List Value) (hs : a.eval s = v) (hown : w.ownsRow base e size v n xs) (hx : a.eval x = .slice none 0 0)
    (h : K (a.put o.dst v) w) : if Region.wanted o (yielded ops a.tmps) = true then Oper.wp P o a w K Q else E := by
  have hw : Region.wanted o (yielded ops a.tmps) = true := by simp [Region.wanted, hgd]
  rw [if_pos hw]
  have hrun := run_append_owned_none (P := P) (w := w) base t o.type e i size ht hi v n xs hown
  unfold Oper.wp execOp
  simp only [ho, resolve, invoke, builtin, Sem.run_bind, Sem.run_pure, Result.andThen_ok, List.map_toArray, List.map_cons, List.map_nil, hs, hx, hrun]
  exact h

set_option maxRecDepth 100000 in
set_option maxHeartbeats 8000000 in
theorem fr_quant_nil (neg : Bool) (abs : List Nat) (name : ByteArray) (exp rel : Int) (truth all : Bool) (ks : List Tr) (ih : ∀ k ∈ ks, FrOk k) : FrOk0 (.mk ⟨15, neg, abs, name, exp, rel, truth, all⟩ ks) := by
  intro cs vo S out B w hB hS hT hown hno
  obtain ⟨bd, hbd0⟩ : ∃ bd : List ByteArray, bd = [] := ⟨[], rfl⟩
  obtain ⟨A1, n1, c1, A2, K, c2, xs, rfl, hK, hKc, hK64, hn1', hnm, hab, hks, htr⟩ := hT.mkN
  have hnm' : name.size ≤ 9223372036854775807 := hnm
  obtain ⟨A4, c4, rfl⟩ := row_slice hown
  unfold hdC
  obtain ⟨W, hW⟩ : ∃ W, w.alloc (.cells #[.int .i64 15, .bool neg, .slice A1 n1 c1, .string name, .int .i64 exp, .int .i64 rel, .bool truth, .bool all, .slice A2 K c2] TT) = W := ⟨_, rfl⟩
  have hx : Box w W w.heap.size #[.int .i64 15, .bool neg, .slice A1 n1 c1, .string name, .int .i64 exp, .int .i64 rel, .bool truth, .bool all, .slice A2 K c2] TT := by rw [← hW]; exact Box.new w _ _
  obtain ⟨b0, b1, b2, b3, b4, b5, b6, b7, b8⟩ := hx.c9
  have hno1 : out.length + nnL ks + 1 ≤ 900000 := by unfold nn at hno; omega
  have HX := Lib.hid hx
  have hWs : w.heap.size < W.heap.size := hx.lt
  have HOL := Lib.hid hown.lt
  have HTR := Lib.hid (htr.below (fun b hb => Nat.lt_of_lt_of_le (hS b hb) hB) hx.below)
  have HKS := Lib.hid (hks.below (fun b hb => Nat.lt_of_lt_of_le (hS b hb) hB) hx.below)
  have HK := Lib.hid hK
  have HO := Lib.hid (ownsRow_keep hown (fun b hb => hx.below.block b (hown.lt b hb).2))
  have IH := Lib.hid ih
  have HS := Lib.hid hS
  clear hx htr hks hK hown ih hT hS hab hn1' hno hnm
  have HFR := Lib.hid (show freeR (.mk ⟨15, neg, abs, name, exp, rel, truth, all⟩ ks) [] out = freeRL ks ([] ++ [name]) out by unfold freeR; rw [if_neg (by simp), if_pos rfl])
  obtain ⟨i0, hi0, hz0, hz1, hz2⟩ := info_parts infoStr
  clear hbd0
  go_enter Try.func64, Try.ntmps64
  go_wp2_with fail
  clear hW
  go_region_law (first | (refine step_append_none _ (by rfl) (.tmp 33) (.tmp 34) 48 rfl W.heap.size tStr i0 1 Try.underlying48 hi0 (.slice (some ⟨W.heap.size, 0, none⟩) 0 0) 0 [] rfl (by first | exact ownsRow_empty W _ _ _ (Nat.le_refl _) | exact (ownsRow_empty W _ _ _ (Nat.le_refl _)).alloc _) rfl ?_) | (refine step_append_none _ (by rfl) (.tmp 33) (.tmp 34) 48 rfl W.heap.size tStr i0 1 Try.underlying48 hi0 (.slice (some ⟨W.heap.size + 1, 0, none⟩) 0 0) 0 [] rfl (empty1 W _ _ _ _ (Nat.le_refl _)) rfl ?_) | ((refine step_append_lies _ (by rfl) (.tmp 35) (.tmp 38) 48 rfl W.heap.size tStr i0 _ 1 16 Try.underlying48 hi0 hz0 hz1 hz2 rfl (by decide) (.slice (some ⟨W.heap.size, 0, none⟩) 0 0) 0 [] rfl ((ownsRow_empty W _ _ _ (Nat.le_refl _)).alloc _) ⟨W.heap.size + 1, 0, none⟩ 1 1 [.string name] rfl rfl (newsA W _ _ _) (by intro u hu; simp at hu; rw [hu]; rfl) (by omega) (by unfold maxLen; omega) (by omega) (by first | (simp; done) | (simp; omega)) _ rfl ?_); intro g2 cp2 w5 ho2 hgr2 hat2 hlt2; simp only [Nat.zero_add, List.nil_append] at ho2; have HO5 := Lib.hid ho2; have HB5 : Hid (Below W.heap.size W w5) := Lib.hid ((((Below.refl _ W).drew.alloc (Nat.le_refl _) _).alloc (by simp) _).grown hgr2 (by first | (simp; done) | (simp; omega)) (by intro k hk; cases hk; first | (simp; done) | (simp; omega))); clear ho2 hgr2 hat2 hlt2) | ((refine step_append_lies _ (by rfl) (.tmp 35) (.tmp 38) 48 rfl W.heap.size tStr i0 _ 1 16 Try.underlying48 hi0 hz0 hz1 hz2 rfl (by decide) (.slice (some ⟨W.heap.size + 1, 0, none⟩) 0 0) 0 [] rfl (empty1 W _ _ _ _ (Nat.le_refl _)) ⟨W.heap.size, 0, none⟩ 1 1 [.string name] rfl rfl (newsB W _ _ _) (by intro u hu; simp at hu; rw [hu]; rfl) (by omega) (by unfold maxLen; omega) (by omega) (by first | (simp; done) | (simp; omega)) _ rfl ?_); intro g2 cp2 w5 ho2 hgr2 hat2 hlt2; simp only [Nat.zero_add, List.nil_append] at ho2; have HO5 := Lib.hid ho2; have HB5 : Hid (Below W.heap.size W w5) := Lib.hid ((((Below.refl _ W).drew.alloc (Nat.le_refl _) _).alloc (by simp) _).grown hgr2 (by first | (simp; done) | (simp; omega)) (by intro k hk; cases hk; first | (simp; done) | (simp; omega))); clear ho2 hgr2 hat2 hlt2))
  all_goals
    have hq8 : w5.cell? ⟨w.heap.size, 8, none⟩ = some (.slice A2 K c2) := (HX.out.step HB5.out).cell 8
    go_wp2
    have HB1 := Lib.hid (HX.out.below.trans (HB5.out.mono HX.out.below.size))
    have HO1 := Lib.hid (ownsRow_keep HO.out (fun b hb => HB5.out.block b (HO.out.lt b hb).2))
    have HBD1 := Lib.hid (bd_new (bd := []) (N := 0) (name := name) HO5.out rfl (by simp))
    have HSB1 := Lib.hid (show ∀ b, (W.heap.size ≤ b ∧ b < w5.heap.size) → b < w5.heap.size ∧ ¬ (Value.slice A4 out.length c4).ownBlock = some b from fun b hb => ⟨hb.2, fun h => by have h1 := (HOL.out b h).2; omega⟩)
    have HTR1 := Lib.hid (HTR.out.below (fun b hb => by have := HS.out b hb; omega) HB5.out)
    have HKS1 := Lib.hid (HKS.out.below (fun b hb => by have := HS.out b hb; omega) HB5.out)
    clear b0 b1 b2 b3 b4 b5 b6 b7 b8
    have HQ8 := Lib.hid hq8
    go_loopw [2, 43] (fun s_ a_ wr => ∃ (i : Nat), i ≤ K ∧ a_ = .int .i64 i ∧ QRel B (.slice A4 out.length c4) (freeRL (ks.take i) ([] ++ [name]) out) w5 wr s_) (fun _ a_ _ => K - (intOf a_).toNat)
    case atStart => exact ⟨0, Nat.zero_le _, rfl, by simpa [freeRL] using HO1.out, Owns.refl _ _⟩
    case round =>
      obtain ⟨i, hi, rfl, hown, ho⟩ := hrel
      have hbs := HB1.out.size
      have q8 : wr.cell? ⟨w.heap.size, 8, none⟩ = some (.slice A2 K c2) := (ho.cell (p := ⟨w.heap.size, 8, none⟩) (cell_lt HQ8.out) (fun h => by have h1 := (HOL.out _ h).2; simp at h1)).trans HQ8.out
      by_cases hlt : i < K
      · have hSo : ∀ b, S b → b < w5.heap.size ∧ ¬ (Value.slice A4 out.length c4).ownBlock = some b := fun b hb => ⟨by have := HS.out b hb; omega, fun h => by have h1 := (HOL.out b h).1; have h2 := HS.out b hb; omega⟩
        have hkeep : ∀ p : Addr, S p.block → wr.cell? p = w5.cell? p := fun p hp => ho.cell (hSo _ hp).1 (hSo _ hp).2
        obtain ⟨kd, b, o, B1, m1, e1', B2, m2, e2', hkd, rfl, hb, hTk, k0, k1, k2, k3, k4, k5, k6, k7, k8⟩ := kid_cells (HKS1.out.keep hkeep) (TrsC.keep hkeep _ _ HTR1.out) HK.out i hlt
        have h1 := freeRL_len (ks.take i) ([] ++ [name]) out
        have h2 := nnL_take_succ ks i kd hkd
        have h3 := nnL_take ks (i + 1)
        have hC := IH.out kd (mem_at hkd) _ (.slice (some ⟨g2, 0, none⟩) (0 + 1) cp2) u2 S (fun b => W.heap.size ≤ b ∧ b < w5.heap.size) ([] ++ [name]) (freeRL (ks.take i) ([] ++ [name]) out) B wr (by have := ho.size; omega) HS.out (S_owns ho HSB1.out) hTk ⟨HBD1.out.1.keep (fun p hp => ho.cell (HSB1.out _ hp).1 (HSB1.out _ hp).2), HBD1.out.2⟩ hown (by omega) (by simp; omega)
        unfold hdC at hC
        have HC := Lib.hid hC
        have HFL := Lib.hid (freeRL_take ks i kd hkd ([] ++ [name]) out)
        have HOO := Lib.hid ho
        clear hC hkd hTk h1 h2 h3 ho hown hkeep hb hSo
        go_wp2_with (first | (go_at_call 64; refine HC.out.mono ?_; intro e w2 hp; obtain ⟨v', rfl, hv', ho'⟩ := hp; have HV := Lib.hid hv'; have HO' := Lib.hid ho'; clear hv' ho'))
        go_roundw
        case rel =>
          exact ⟨i + 1, by omega, by go_num, by rw [HFL.out]; exact HV.out, HOO.out.trans HO'.out⟩
        case measure => simp [intOf]; omega
      · have HOW := Lib.hid hown
        have HOO := Lib.hid ho
        have HI := Lib.hid (show ks.take i = ks from List.take_of_length_le (by rw [← HK.out]; omega))
        clear hown ho
        go_wp2
        go_ret
        have hown := HOW.out
        rw [HI.out] at hown
        refine ⟨u2, rfl, ?_, (Owns.of_below HB1.out _).trans HOO.out⟩
        rw [HFR.out]; exact hown

theorem fr_any : ∀ t, FrOk t := by
  refine Tr.ind fun h ks ih => ?_
  obtain ⟨k, neg, abs, name, exp, rel, truth, all⟩ := h
  by_cases h15 : k = 15
  · subst h15
    intro cs vb vo S Sb bd out B w hB hS hSb hT hbd hown hno hnb
    by_cases hn : bd = []
    · obtain rfl := hbd.2 hn
      subst hn
      exact fr_quant_nil neg abs name exp rel truth all ks ih cs vo S out B w hB hS hT hown hno
    · exact fr_quant neg abs name exp rel truth all ks ih cs vb vo S Sb bd out B w hn hB hS hSb hT hbd hown hno hnb
  · by_cases h2 : k = 2
    · subst h2
      exact fr_name neg abs name exp rel truth all ks ih
    · exact fr_other k neg abs name exp rel truth all ks ih h2 h15
theorem bd_none {w : World} {S : Nat → Prop} : BdAt w S (.slice none 0 0) [] := ⟨⟨SS.nil, by simp⟩, fun _ => rfl⟩

set_option maxRecDepth 100000 in
theorem rfree_any (t : Tr) (cs : List Value) (S : Nat → Prop) (w : World) (hS : ∀ b, S b → b < w.heap.size) (hT : TreeAt w S t cs) (hn : nn t ≤ 900000) :
    Calls Try.prog 27 #[.agg cs.toArray] w fun e w' => ∃ v', e = .returned v' ∧ w'.ownsRow w.heap.size tStr 1 v' (freeR t [] []).length ((freeR t [] []).map Value.string) ∧ Below w.heap.size w w' := by
  obtain ⟨A1, n1, c1, A2, n2, c2, k, neg, nm, ex, rl, tr, al, rfl⟩ := hT.nine
  have hx := Box.new w #[.int .i64 k, .bool neg, .slice A1 n1 c1, .string nm, .int .i64 ex, .int .i64 rl, .bool tr, .bool al, .slice A2 n2 c2] TT
  have HX := Lib.hid hx
  have HC := Lib.hid (fr_any t _ (.slice none 0 0) (.slice none 0 0) S (fun _ => False) [] [] w.heap.size _ hx.below.size hS (fun b h => h.elim) (hT.below hS hx.below) bd_none ⟨rfl, .inl ⟨rfl, rfl⟩⟩ (by simpa using hn) (by simpa using hn))
  clear hx hT
  go_enter Try.func27, Try.ntmps27
  go_wp2_with (go_at_call 64; refine HC.out.mono ?_; intro e w1 hp; obtain ⟨v', rfl, hv', ho'⟩ := hp; have HV := Lib.hid hv'; have HO' := Lib.hid ho'; clear hv' ho')
  go_ret
  exact ⟨v', rfl, HV.out, HX.out.below.trans (HO'.out.below HX.out.below.size (fun b hb => by cases hb))⟩


end Fm
end Go.Proofs.Ytjbgdaojhdobkaa
