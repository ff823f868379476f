/-
  The reference's Decimal.
-/
import Derived.Test.YtkjbfomokdjbnaaDoorRtZ
import Derived.Lib.SlicesS
namespace Go.Proofs.YtkjbfomokdjbnaaDoor
open Go.RowKit
set_option linter.unusedSimpArgs false
set_option linter.unusedVariables false
namespace Rt
open Fm Dc
theorem field_abs (x0 x1 : Value) (w : World) : (Instr.field 25 (.agg #[x0, x1]) 1).run Tryd.prog w = .ok x1 w := by kernel_rfl
attribute [local go_sem] run_store field_abs

/-- the row's first digits -/
def DRel (g m : Nat) (cur : List Nat) (wr : World) : Prop :=
  ∃ cs : Array Value, wr.heap[g]? = some (.cells cs 128 (0, 0)) ∧ m = cur.length ∧ m ≤ cs.size ∧ ∀ (j x : Nat), cur[j]? = some x → cs[j]? = some (u32V x)
/-- while it is divided: the digits from k on are the quotient's -/
def IRel (g m : Nat) (cur : List Nat) (k : Nat) (wr : World) : Prop :=
  ∃ cs : Array Value, wr.heap[g]? = some (.cells cs 128 (0, 0)) ∧ m = cur.length ∧ m ≤ cs.size ∧ (∀ (j x : Nat), j < k → cur[j]? = some x → cs[j]? = some (u32V x)) ∧ ∀ (j x : Nat), k ≤ j → (divL 10 cur)[j]? = some x → cs[j]? = some (u32V x)
theorem DRel.start {g m : Nat} {cur : List Nat} {wr : World} (h : DRel g m cur wr) : IRel g m cur m wr := by
  obtain ⟨cs, h1, h2, h3, h4⟩ := h
  exact ⟨cs, h1, h2, h3, fun j x _ hx => h4 j x hx, fun j x hj hx => by
    have := (List.getElem?_eq_some_iff.1 hx).1
    rw [divL_len] at this; omega⟩
theorem IRel.done {g m : Nat} {cur : List Nat} {wr : World} (h : IRel g m cur 0 wr) : DRel g m (divL 10 cur) wr := by
  obtain ⟨cs, h1, h2, h3, _, h4⟩ := h
  exact ⟨cs, h1, by rw [divL_len]; exact h2, h3, fun j x hx => h4 j x (Nat.zero_le _) hx⟩
theorem DRel.take {g m k : Nat} {t : List Nat} {wr : World} (h : DRel g m t wr) (hk : k ≤ m) : DRel g k (t.take k) wr := by
  obtain ⟨cs, h1, h2, h3, h4⟩ := h
  refine ⟨cs, h1, by rw [List.length_take]; omega, by omega, fun j x hx => h4 j x ?_⟩
  rw [List.getElem?_take] at hx
  split at hx
  · exact hx
  · cases hx
theorem DRel.at_ {g m : Nat} {t : List Nat} {wr : World} (h : DRel g m t wr) (j x : Nat) (hx : t[j]? = some x) : wr.cell? ⟨g, j, none⟩ = some (.int .u32 (x : Int)) := by
  obtain ⟨cs, h1, h2, h3, h4⟩ := h
  have := h4 j x hx
  simp [World.cell?, h1, this, u32V]
theorem IRel.at_ {g m k : Nat} {t : List Nat} {wr : World} (h : IRel g m t k wr) (j x : Nat) (hj : j < k) (hx : t[j]? = some x) : wr.cell? ⟨g, j, none⟩ = some (.int .u32 (x : Int)) ∧ wr.frozen? ⟨g, j, none⟩ = false := by
  obtain ⟨cs, h1, h2, h3, h4, _⟩ := h
  have := h4 j x hj hx
  exact ⟨by simp [World.cell?, h1, this, u32V], by simp [World.frozen?, h1]⟩
theorem IRel.step {g m k x : Nat} {t : List Nat} {wr : World} (h : IRel g m t (k + 1) wr) (hx : t[k]? = some x) (u : Value) (hu : u = u32V (qd 10 x (t.drop (k + 1)))) : IRel g m t k (wr.setCell ⟨g, k, none⟩ u) := by
  obtain ⟨cs, h1, h2, h3, h4, h5⟩ := h
  have hkm : k < m := by rw [h2]; exact (List.getElem?_eq_some_iff.1 hx).1
  refine ⟨cs.setIfInBounds k u, setCell_cells _ _ _ _ _ _ h1, h2, by simpa using h3, fun j y hj hy => ?_, fun j y hj hy => ?_⟩
  · rw [Array.getElem?_setIfInBounds_ne (by omega)]
    exact h4 j y (by omega) hy
  · by_cases e : j = k
    · subst e
      rw [divL_at 10 hx] at hy
      injection hy with hy
      subst hy
      rw [hu]
      have hjc : j < cs.size := by omega
      simp [hjc]
    · rw [Array.getElem?_setIfInBounds_ne (by omega)]
      exact h5 j y (by omega) hy

section
variable {P : Program} (w : World)
theorem run_append_zero (t u ty e e' : TypeId) (i : TypeInfo) (ht : P.underlying t = some (.slice e)) (hu : P.underlying u = some (.slice e')) (hi : P.info? e = some i) (g : Addr) (c c2 : Nat) (A : Option Addr) :
    (Builtin.append_ #[t, u] ty #[.slice (some g) 0 c, .slice A 0 c2]).run P w = .ok (.slice (some g) 0 c) w := by
  have hf : (Builtin.firstCells i.size 0 (.slice A 0 c2)).run P w = .ok #[] w := by
    cases A with
    | none => rfl
    | some a => exact run_firstCells_some (P := P) w i.size 0 a 0 c2 [] (by simp) (fun j u h => by simp at h)
  have hst : (storeCells (g.add (0 * i.size)) ([] : List Value)).run P w = .ok () w := rfl
  simp only [Nat.zero_mul] at hst
  simp [Builtin.append_, run_underlying ht, run_underlying hu, sizeOf, typeInfo, hi, Builtin.lenOf, hf, hst]
theorem wpList_append_zero {ops : Array Oper} {rest : List Oper} {o : Oper} {a : Act} {Q : Exit → Act → World → Prop} (hgd : o.guard = none) (s x : Operand) (t u : TypeId)
    (ho : o.op = .call { callee := .builtin .append, args := #[s, x], argTypes := #[t, u] }) (e e' : TypeId) (i : TypeInfo) (ht : P.underlying t = some (.slice e)) (hu : P.underlying u = some (.slice e')) (hi : P.info? e = some i)
    (g : Addr) (c c2 : Nat) (A : Option Addr) (hs : a.eval s = .slice (some g) 0 c) (hx : a.eval x = .slice A 0 c2)
    (h : wpList P ops Q rest (a.put o.dst (.slice (some g) 0 c)) w) : wpList P ops Q (o :: rest) a w :=
  wpList_plain hgd fun _ hK => by
    have hr := run_append_zero (P := P) w t u o.type e e' i ht hu hi g c c2 A
    unfold Oper.wp execOp
    simp only [ho, resolve, invoke, builtin, Sem.run_bind, Sem.run_pure, Result.andThen_ok, List.map_toArray, List.map_cons, List.map_nil, hs, hx, hr]
    exact hK _ _ h
end

/-- the digits of a number, none for nought -/
def tenB (n : Nat) : ByteArray := bsR ((revd n).reverse.map asc)
theorem ten_zero : tenB 0 = ⟨#[]⟩ := by unfold tenB; rw [revd_zero]; rfl
theorem ten_step {n : Nat} (h : 0 < n) : tenB n = tenB (n / 10) ++ bsR [asc (n % 10)] := by
  unfold tenB
  rw [revd_pos h, List.reverse_cons, List.map_append, bs_app]
  rfl
theorem ten_sz (n : Nat) : (tenB n).size = (revd n).length := by unfold tenB; rw [bs_sz]; simp
theorem ten_fmt {n : Nat} (h : n ≠ 0) : bsR (fmtL false n) = tenB n := by unfold fmtL tenB; rw [if_neg h]; simp
theorem ba_assoc (a b c : ByteArray) : (a ++ b) ++ c = a ++ (b ++ c) := by
  apply ByteArray.ext
  simp [Array.append_assoc]
theorem ba_nil (a : ByteArray) : (⟨#[]⟩ : ByteArray) ++ a = a := by
  apply ByteArray.ext
  simp
def EncR (r : Nat) (sr : ByteArray) : Prop := sr = bsR [asc r] ∧ r < 10
def strN : Value → Nat
  | .string s => s.size
  | _ => 0

set_option maxRecDepth 100000 in
set_option maxHeartbeats 8000000 in
theorem decimal_any (neg : Bool) (l : List Nat) (v : Value) (S : Nat → Prop) (w : World) (hS : ∀ b, S b → b < w.heap.size) (h : AbsAt w S v l) (hl : l.length ≤ 1000000) :
    Calls Tryd.prog 59 #[.agg #[.bool neg, v]] w (fun e w' => e = .returned (.string (bsR (fmtL false (valN l)))) ∧ Below w.heap.size w w') := by
  obtain ⟨A, c, hv⟩ := h.form
  obtain ⟨W, hW⟩ : ∃ W, (w.alloc (.cells #[.bool neg, v] 25)).alloc (.cells #[] 128) = W := ⟨_, rfl⟩
  have hx : Box w W w.heap.size #[.bool neg, v] 25 := by rw [← hW]; exact (Box.new w _ _).alloc _
  have hWs : W.heap.size = w.heap.size + 2 := by rw [← hW]; simp
  have hoe : W.ownsRow (w.heap.size + 1) 128 1 (.slice (some ⟨w.heap.size + 1, 0, none⟩) 0 0) 0 [] := by
    rw [← hW]
    have h := ownsRow_empty (w.alloc (.cells #[.bool neg, v] 25)) (w.heap.size + 1) 128 1 (by simp)
    simpa using h
  obtain ⟨c0, c1⟩ := hx.c2
  have HI := Lib.hid (rint_any neg l v S W (fun b hb => Nat.lt_of_lt_of_le (hS b hb) hx.below.size) (h.below hS hx.below) hl)
  obtain ⟨m, hm⟩ : ∃ m, m = (trimN l).length := ⟨_, rfl⟩
  have hm6 : m ≤ 1000000 := by rw [hm]; have := trimN_le l; omega
  have hbd := revd_len_val l h.2.1
  obtain ⟨K, hK⟩ : ∃ K, K = (revd (valN l)).length := ⟨_, rfl⟩
  rw [← hK] at hbd
  obtain ⟨r, hr⟩ : ∃ r, r = normB neg l := ⟨_, rfl⟩
  obtain ⟨i0, hi0, hz0, hz1, hz2⟩ := info_parts infoU32
  obtain ⟨N, hN⟩ : ∃ N, N = valN l := ⟨_, rfl⟩
  obtain ⟨F, hF⟩ : ∃ F, F = bsR (fmtL false (valN l)) := ⟨_, rfl⟩
  have HF0 := Lib.hid (show N = 0 → F = ⟨#[48]⟩ from fun h => by rw [hF, ← hN, h]; rfl)
  have HF1 := Lib.hid (show N ≠ 0 → F = tenB N from fun h => by rw [hF, ← hN, ten_fmt h])
  have HTZ := Lib.hid (show (tenB N).size = K from by rw [ten_sz, hN, hK])
  have HN := Lib.hid hN
  rw [← hF]
  have HX := Lib.hid hx
  have HM := Lib.hid hm
  have HK := Lib.hid hK
  have HR := Lib.hid hr
  have HOE := Lib.hid hoe
  have HWS := Lib.hid hWs
  subst hv
  clear h hS hx hm hK hr hoe hWs hN hF
  go_enter Tryd.func59, Tryd.ntmps59
  go_wp2_with fail
  (refine HI.out.mono ?_)
  intro e w2 hq
  obtain ⟨v2, rfl, hA2, hb2⟩ := hq
  obtain ⟨A2, c2, rfl⟩ := hA2.form
  rw [← HM.out]
  rw [← HM.out] at hA2
  have HO2 := Lib.hid (own_below HOE.out hb2)
  have HA2 := Lib.hid hA2
  have HB2 := Lib.hid hb2
  have hs2 := hb2.size
  clear hA2 hb2
  by_cases hm0 : m = 0
  · subst hm0
    have HN0 := Lib.hid (show F = ⟨#[48]⟩ from HF0.out (by
      have h1 := HM.out
      have h2 := (trim_zero l).1 h1.symm
      rw [HN.out, h2]))
    go_wp2_with (at_builtin; refine wpList_append_zero _ rfl (.tmp 8) (.tmp 11) 22 23 rfl 128 128 i0 Tryd.underlying22 Tryd.underlying23 hi0 _ _ _ _ rfl rfl ?_)
    refine wp_loop_rounds 1 ?_
    rw [rounds_succ]
    go_wp2
    go_ret
    exact ⟨by rw [HN0.out]; rfl, HX.out.below.trans (HB2.out.mono HX.out.below.size)⟩
  · have hm1 : 0 < m := by omega
    have hss := HA2.out.1
    rw [← HM.out] at hss
    obtain ⟨b, o, rfl, hbb, hcell⟩ := hss.at_ hm1
    clear hss
    have HCE := Lib.hid (show ∀ j u, ((trimN l).map u32V)[j]? = some u → w2.cell? ((⟨b, o, none⟩ : Addr).add j) = some u from fun j u hj => by
      rw [← hcell j u hj]
      unfold Addr.add; split
      · rename_i h5; simp [h5]
      · rfl)
    have hws2 := HWS.out
    clear hcell hbb
    go_wp2_with (at_builtin; refine wpList_append_two _ rfl (.tmp 8) (.tmp 11) 22 23 rfl (w.heap.size + 1) 128 i0 _ 1 4 Tryd.underlying22 Tryd.underlying23 hi0 hz0 hz1 hz2 rfl (by omega) _ 0 [] rfl HO2.out ⟨b, o, none⟩ m c2 ((trimN l).map u32V) rfl (by rw [List.length_map, ← HM.out]; omega) HCE.out (by intro u hu; obtain ⟨x, _, rfl⟩ := List.mem_map.1 hu; rfl) (by omega) (by unfold maxLen; omega) (by omega) (by omega) w2.heap.size rfl ?_; intro g cap w4 hown4 hgrow hat hlt; simp only [Nat.zero_add, List.nil_append] at hown4; have HO4 := Lib.hid hown4; have HG4 := Lib.hid hgrow; clear hown4 hgrow hat)
    have hmc : m ≤ cap := by
      rcases HO4.out.2 with ⟨e, _⟩ | ⟨g', cap', cur, e, _, _, h1, _⟩
      · cases e
      · injection e with _ _ e3; omega
    have hgB : w.heap.size + 1 ≤ g := (HO4.out.lt g rfl).1
    have HB4 := Lib.hid (show Below w.heap.size w w4 from (HX.out.below.trans (HB2.out.mono HX.out.below.size)).grown HG4.out (by omega) (fun k hk => by have := (HO2.out.lt k hk).1; omega))
    have HD4 := Lib.hid (show DRel g m (trimN l) w4 from by
      rcases HO4.out.2 with ⟨e, _⟩ | ⟨g', cap', cur, e, _, h1, h2, _, h4, h5⟩
      · cases e
      · injection e with e1 e2 e3
        injection e1 with e1
        injection e1 with e1
        subst e1
        subst e3
        refine ⟨cur, h1, HM.out, by omega, fun j x hx => ?_⟩
        have hj := (List.getElem?_eq_some_iff.1 hx).1
        have h6 : ((trimN l).map u32V)[j]? = some (u32V x) := by rw [List.getElem?_map, hx]; rfl
        rw [← h5, List.getElem?_take] at h6
        rw [if_pos (by rw [← HM.out] at hj; omega)] at h6
        simpa using h6)
    go_loopw [3, 4] (fun a3 a4 wr => ∃ (m' : Nat) (s : ByteArray) (cur : List Nat), a3 = .slice (some ⟨g, 0, none⟩) m' cap ∧ a4 = .string s ∧ m' ≤ m ∧ Hid (s.size ≤ K) ∧ Hid (DRel g m' cur wr) ∧ Hid (tenB (valN cur) ++ s = tenB N) ∧ Hid (m' = 0 ↔ valN cur = 0) ∧ Hid (∀ x ∈ cur, x < 4294967296) ∧ Hid (Below w.heap.size w wr)) (fun _ a4 _ => K + 1 - strN a4)
    case atStart => exact ⟨m, ⟨#[]⟩, trimN l, rfl, rfl, Nat.le_refl _, Lib.hid (Nat.zero_le _), HD4, Lib.hid (by rw [valN_trim, HN.out]; apply ByteArray.ext; simp), Lib.hid (by rw [HM.out, valN_trim]; exact trim_zero l), Lib.hid HA2.out.2.1, HB4⟩
    case round =>
      obtain ⟨m', s, cur, rfl, rfl, hmm, hcK, hdr, hcnt, hz, hlt32, hbel⟩ := hrel
      by_cases h0 : m' = 0
      · subst h0
        have HV := Lib.hid (show s = tenB N from by
          have h1 := hz.out.1 rfl
          have h2 := hcnt.out
          rw [h1, ten_zero, ba_nil] at h2
          exact h2)
        by_cases hN0 : N = 0
        · have hs0 : s = ⟨#[]⟩ := by rw [HV.out, hN0, ten_zero]
          have hf0 : F = ⟨#[48]⟩ := HF0.out hN0
          subst hs0
          subst hf0
          go_wp2
          all_goals
            go_ret
            exact ⟨rfl, hbel.out⟩
        · have hne : s ≠ ⟨#[]⟩ := fun h => by
            have h1 := HTZ.out
            rw [← HV.out, h, HK.out, ← HN.out, revd_pos (by omega), List.length_cons] at h1
            have h2 : (⟨#[]⟩ : ByteArray).size = 0 := rfl
            omega
          have hb0 : (s.toList == (⟨#[]⟩ : ByteArray).toList) = false := (Lib.bytes_beq_false_iff s ⟨#[]⟩).2 hne
          have e0 : (⟨#[]⟩ : ByteArray).toList = [] := by first | rfl | simp | decide
          have hbE : s.toList.isEmpty = false := by
            rw [e0] at hb0
            cases hl : s.toList with
            | nil => rw [hl] at hb0; cases hb0
            | cons x xs => rfl
          have hfs : F = s := by rw [HF1.out hN0, HV.out]
          subst hfs
          clear hne hb0 e0
          go_wp2
          all_goals
            go_ret
            exact ⟨rfl, hbel.out⟩
      · have hm1' : (0 : Int) < m' := by omega
        have HDM := Lib.hid (show m' = cur.length from by obtain ⟨cs, _, h, _⟩ := hdr.out; exact h)
        have hcp : 0 < valN cur := by have : valN cur ≠ 0 := fun h => h0 (hz.out.2 h); omega
        have hcnt1 : Hid (s.size < K) := Lib.hid <| by
          have h1 := congrArg ByteArray.size hcnt.out
          rw [HTZ.out, ByteArray.size_append, ten_sz, revd_pos hcp, List.length_cons] at h1
          omega
        obtain ⟨r, hr⟩ : ∃ r, r = valN cur % 10 := ⟨_, rfl⟩
        have hr10 : r < 10 := by rw [hr]; exact Nat.mod_lt _ (by omega)
        have HRR := Lib.hid hr
        have HCP := Lib.hid hcp
        obtain ⟨sr, hsr⟩ : ∃ sr, sr = bsR [asc r] := ⟨_, rfl⟩
        have hsz1 : sr.size = 1 := by rw [hsr]; rfl
        have HNX := Lib.hid (show tenB (valN cur / 10) ++ (sr ++ s) = tenB N from by
          rw [← hcnt.out, ten_step hcp, ba_assoc, hsr, hr])
        have hK7 := Lib.hid (show K ≤ 10000000 by omega)
        have HE := Lib.hid (show EncR r sr from ⟨hsr, hr10⟩)
        have HS1 := Lib.hid hsz1
        clear hr hcp hsr hsz1
        go_wp2_with fail
        go_loopw [5, 6] (fun a5 a6 wi => ∃ k : Nat, k ≤ m' ∧ a6 = .int .i64 ((k : Int) - 1) ∧ a5 = .int .u64 ((valN (cur.drop k) % 10 : Nat) : Int) ∧ Hid (IRel g m' cur k wi) ∧ Hid (Below w.heap.size w wi)) (fun _ a6 _ => (intOf a6 + 1).toNat)
        case atStart => exact ⟨m', Nat.le_refl _, rfl, by rw [List.drop_eq_nil_of_le (by rw [← HDM.out]; exact Nat.le_refl _)]; simp [valN], Lib.hid hdr.out.start, hbel⟩
        case round =>
          obtain ⟨k, hk, rfl, rfl, hir, hb2⟩ := hrel
          by_cases hk0 : k = 0
          · subst hk0
            have HDR := Lib.hid hir.out.done
            rw [List.drop_zero, ← HRR.out]
            obtain ⟨t, ht⟩ : ∃ t, t = divL 10 cur := ⟨_, rfl⟩
            have htl : t.length = m' := by rw [ht, divL_len, HDM.out]
            have htv : valN t = valN cur / 10 := by rw [ht, valN_divL 10 (by omega)]
            have ht32 : ∀ x ∈ t, x < 4294967296 := by rw [ht]; exact divL_lt 10 (by omega) cur hlt32.out
            rw [← ht] at HDR
            have HTL := Lib.hid htl
            have HTV := Lib.hid htv
            have HT32 := Lib.hid ht32
            clear ht htl htv ht32
            go_wp2_with fail
            go_loop [3] (fun a3 => ∃ j : Nat, j ≤ m' ∧ a3 = .slice (some ⟨g, 0, none⟩) j cap ∧ Hid (trimLen t j = trimLen t t.length)) (fun a3 => slen a3)
            case atStart => exact ⟨m', Nat.le_refl _, rfl, Lib.hid (by rw [HTL.out])⟩
            case round =>
              obtain ⟨j, hj, rfl, htr⟩ := hrel
              have HTD : ∀ jj, jj = (trimN t).length → jj ≤ m' → ((trimN t).length = jj) := fun jj h _ => h.symm
              have HFIN := Lib.hid (show j = trimLen t t.length → DRel g j (trimN t) wr ∧ tenB (valN (trimN t)) ++ (sr ++ s) = tenB N ∧ (j = 0 ↔ valN (trimN t) = 0) ∧ (∀ x ∈ trimN t, x < 4294967296) from fun hjt => by
                have e1 : trimN t = t.take j := by unfold trimN; rw [← hjt]
                refine ⟨by rw [e1]; exact HDR.out.take hj, ?_, ?_, fun x hx => HT32.out x (by unfold trimN at hx; exact List.mem_of_mem_take hx)⟩
                · rw [valN_trim, HTV.out]; exact HNX.out
                · rw [valN_trim, ← trim_zero, trimN_len, ← hjt])
              clear HTD
              by_cases hj0 : j = 0
              · subst hj0
                have he : Utf8.encode (48 + (r : Int)) = sr := by rw [HE.out.1]; exact enc_digit r HE.out.2
                have hsz1 := HS1.out
                have hz1 : ¬ 9223372036854775807 < 1 + s.size := by have := hK7.out; have := hcnt1.out; omega
                have HF := Lib.hid (HFIN.out (trim_stop (Nat.zero_le _) htr.out (.inl rfl)))
                go_wp2
                go_roundw
                case rel => exact ⟨0, sr ++ s, trimN t, rfl, rfl, Nat.zero_le _, Lib.hid (by have := hcnt1.out; rw [ByteArray.size_append, HS1.out]; omega), Lib.hid HF.out.1, Lib.hid HF.out.2.1, Lib.hid HF.out.2.2.1, Lib.hid HF.out.2.2.2, hb2⟩
                case measure => (have := hcnt1.out; simp [strN, ByteArray.size_append, HS1.out]; omega)
              · obtain ⟨x, hx⟩ : ∃ x, t[j - 1]? = some x := ⟨_, List.getElem?_eq_getElem (by have := HTL.out; omega)⟩
                have hxc := HDR.out.at_ (j - 1) x hx
                have hx1 : t.getD (j - 1) 1 = x := by simp [List.getD, hx]
                have HX1 := Lib.hid hx1
                have hkc : ((j : Int) - 1).toNat = j - 1 := by omega
                have hj1 : (0 : Int) < j := by omega
                have hj2 : (0 : Int) ≤ (j : Int) - 1 := by omega
                have hj3 : (j : Int) - 1 < (j : Int) := by omega
                have hj4 : (j : Int) - 1 ≤ (cap : Int) := by omega
                clear hx hx1
                by_cases hxz : x = 0
                · have hxz' : ((x : Int) == 0) = true := by simp; omega
                  have HS := Lib.hid (trim_step (l := t) (m := j - 1) (by have := HTL.out; omega) (by rw [show j - 1 + 1 = j by omega]; exact htr.out) (by rw [HX1.out]; exact hxz))
                  clear hxz
                  go_wp2
                  go_round
                  case rel => exact ⟨j - 1, by omega, rfl, HS⟩
                  case measure => rw [slen_slice, slen_slice]; omega
                · have hxz' : ((x : Int) == 0) = false := by simp; omega
                  have HF := Lib.hid (HFIN.out (trim_stop (by have := HTL.out; omega) htr.out (.inr (by rw [HX1.out]; exact hxz))))
                  clear hxz
                  go_wp2
                  · rename_i hbig _
                    exfalso
                    have he : Utf8.encode (48 + (r : Int)) = sr := by rw [HE.out.1]; exact enc_digit r HE.out.2
                    rw [he, HS1.out] at hbig
                    have := hK7.out; have := hcnt1.out
                    omega
                  · have he : Utf8.encode (48 + (r : Int)) = sr := by rw [HE.out.1]; exact enc_digit r HE.out.2
                    rw [he]
                    go_roundw
                    case rel => exact ⟨j, sr ++ s, trimN t, rfl, rfl, by omega, Lib.hid (by have := hcnt1.out; rw [ByteArray.size_append, HS1.out]; omega), Lib.hid HF.out.1, Lib.hid HF.out.2.1, Lib.hid HF.out.2.2.1, Lib.hid HF.out.2.2.2, hb2⟩
                    case measure => (have := hcnt1.out; simp [strN, ByteArray.size_append, HS1.out]; omega)
          · obtain ⟨x, hx⟩ : ∃ x, cur[k - 1]? = some x := ⟨_, List.getElem?_eq_getElem (by have := HDM.out; omega)⟩
            obtain ⟨hxc, hxf⟩ := hir.out.at_ (k - 1) x (by omega) hx
            have hx32 : x < 4294967296 := hlt32.out x (List.mem_of_getElem? hx)
            obtain ⟨R, hR⟩ : ∃ R, valN (cur.drop k) % 10 = R := ⟨_, rfl⟩
            have hR10 : R < 10 := by rw [← hR]; exact Nat.mod_lt _ (by omega)
            have hstep := rem_step 10 (by omega) hx
            have hqd : qd 10 x (cur.drop (k - 1 + 1)) = (R * 4294967296 + x) / 10 := by unfold qd; rw [show k - 1 + 1 = k by omega, hR]
            rw [show k - 1 + 1 = k by omega, hR] at hstep
            have HST := Lib.hid hstep
            have HQD := Lib.hid hqd
            have HXX := Lib.hid hx
            have hkc : ((k : Int) - 1).toNat = k - 1 := by omega
            have hkc2 : (0 : Int) ≤ (k : Int) - 1 := by omega
            have hkc3 : (k : Int) - 1 < (m' : Int) := by omega
            rw [hR]
            clear hx hR hstep hqd
            go_wp2
            go_roundw
            case rel =>
              refine ⟨k - 1, by omega, by congr 1; omega, by rw [HST.out]; simp, Lib.hid ?_, Lib.hid (hb2.out.setCell (p := ⟨_, _, none⟩) (show w.heap.size ≤ g by omega) _)⟩
              exact IRel.step (k := k - 1) (x := x) (by rw [show k - 1 + 1 = k by omega]; exact hir.out) HXX.out _ (by rw [HQD.out]; simp [u32V])
            case measure => simp [intOf]; omega
end Rt
end Go.Proofs.YtkjbfomokdjbnaaDoor
