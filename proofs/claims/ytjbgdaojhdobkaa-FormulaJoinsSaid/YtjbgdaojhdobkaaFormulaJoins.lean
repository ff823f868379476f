/-
  FormulaJoins: for every list of trees that came in the law returns true: All and Any are folds from the left. No condition.
-/
import Derived.Test.YtjbgdaojhdobkaaFmFo
import Derived.Test.YtjbgdaojhdobkaaFmFl
import Derived.Test.YtjbgdaojhdobkaaFmX
import Derived.Test.YtjbgdaojhdobkaaFmPa
import Derived.Test.YtjbgdaojhdobkaaFmAw
import Derived.Test.YtjbgdaojhdobkaaFmOpT
import Derived.Test.YtjbgdaojhdobkaaRows
import Derived.ProofKit
import Derived.OpenShut
import Derived.ShutString
import Derived.Carry
namespace Go.Proofs.Ytjbgdaojhdobkaa.formulaJoins
open Go.ChangeShapes Go.WideShapes Go.ChangeAt Go.RowKit Go.Proofs.Ytjbgdaojhdobkaa Go.Proofs.Ytjbgdaojhdobkaa.Fm
set_option linter.unusedVariables false
set_option linter.unusedSimpArgs false

abbrev tFo : TypeId := 43
theorem infoFo : (Try.prog.info? tFo).map (fun i => (i.zero, i.size, i.bytes)) = some (some .nilIface, 1, 16) := by kernel_rfl
def rightL (ts : List Tr) : List Tr := ts.filter fun t => isF t false
theorem rightL_take {L : List Tr} {i : Nat} {t : Tr} (h : L[i]? = some t) : rightL (L.take (i + 1)) = rightL (L.take i) ++ (if isF t false then [t] else []) := by
  obtain ⟨hi, rfl⟩ := List.getElem?_eq_some_iff.1 h
  rw [List.take_succ_eq_append_getElem hi]
  unfold rightL
  rw [List.filter_append]
  cases hk : isF L[i] false <;> simp [hk]
theorem rightL_len (L : List Tr) (i : Nat) : (rightL (L.take i)).length ≤ L.length := by
  unfold rightL
  have := List.length_filter_le (fun t => isF t false) (L.take i)
  have : (L.take i).length ≤ L.length := by rw [List.length_take]; omega
  omega
theorem fosAt_snoc {w : World} {S : Nat → Prop} {fs : List Fo} {vs : List Value} {f : Fo} {v : Value} (h : FosAt w S fs vs) (hf : FoAt w S f v) : FosAt w S (fs ++ [f]) (vs ++ [v]) := by
  refine ⟨by simp [h.1], fun i t hi => ?_⟩
  by_cases hlt : i < fs.length
  · rw [List.getElem?_append_left hlt] at hi
    obtain ⟨v', h1, h2⟩ := h.2 i t hi
    exact ⟨v', by rw [List.getElem?_append_left (by rw [h.1]; exact hlt)]; exact h1, h2⟩
  · rw [List.getElem?_append_right (by omega)] at hi
    obtain ⟨h1, h2⟩ := List.getElem?_eq_some_iff.1 hi
    simp at h1
    have : i = fs.length := by omega
    subst this
    simp at h2
    subst h2
    exact ⟨v, by rw [← h.1]; simp, hf⟩
theorem fromt_snoc {ts : List Tr} {fs : List Fo} {t : Tr} {f : Fo} (h : Fromt ts fs) (hrf : RF t f) (hsm : Sm t) : Fromt (ts ++ [t]) (fs ++ [f]) := by
  refine ⟨by simp [h.1], fun i g hi => ?_⟩
  by_cases hlt : i < fs.length
  · rw [List.getElem?_append_left hlt] at hi
    obtain ⟨u, h1, h2⟩ := h.2 i g hi
    exact ⟨u, by rw [List.getElem?_append_left (by rw [h.1]; exact hlt)]; exact h1, h2⟩
  · rw [List.getElem?_append_right (by omega)] at hi
    obtain ⟨h1, h2⟩ := List.getElem?_eq_some_iff.1 hi
    simp at h1
    have : i = fs.length := by omega
    subst this
    simp at h2
    subst h2
    exact ⟨t, by rw [← h.1]; simp, hrf, hsm⟩
theorem smF_join (b : Bool) : ∀ (ts : List Tr) (fs : List Fo), Fromt ts fs → SmF (joinF b fs) := by
  intro ts fs h
  have hall : ∀ f ∈ fs, SmF f := fun f hf => by
    obtain ⟨i, hi, rfl⟩ := List.getElem_of_mem hf
    obtain ⟨t, _, hrf, hsm⟩ := h.2 i _ (List.getElem?_eq_getElem hi)
    exact (plainF_of hrf hsm).2
  have hgo : ∀ (l : List Fo) (a : Fo), SmF a → (∀ f ∈ l, SmF f) → SmF (l.foldl (joinStep b) a) := by
    intro l
    induction l with
    | nil => intro a ha _; exact ha
    | cons x l ih =>
      intro a ha hl
      refine ih _ ?_ (fun f hf => hl f (List.mem_cons_of_mem _ hf))
      have hx := hl x (List.mem_cons_self ..)
      unfold joinStep
      cases b
      · exact ⟨ha, hx⟩
      · exact ⟨ha, hx⟩
  cases fs with
  | nil => exact trivial
  | cons f l => exact hgo l f (hall f (List.mem_cons_self ..)) (fun g hg => hall g (List.mem_cons_of_mem _ hg))

/-- blocks from B on that are none of the two rows that grow -/
abbrev Jz (B : Nat) (v3 v4 : Value) (wr : World) : Nat → Prop := fun b => B ≤ b ∧ b < wr.heap.size ∧ v3.ownBlock ≠ some b ∧ v4.ownBlock ≠ some b
def JRel (w : World) (B : Nat) (ts : List Tr) (v3 v4 : Value) (wr : World) : Prop :=
  ∃ fs vs xs, Fromt ts fs ∧ wr.ownsRow B tFo 1 v3 ts.length vs ∧ FosAt wr (Jz B v3 v4 wr) fs vs ∧ wr.ownsRow B TT 9 v4 ts.length xs ∧ TrsC wr (fun b => b < w.heap.size) ts xs
theorem FosAt.keepM {w w' : World} {S S' : Nat → Prop} {fs : List Fo} {vs : List Value} (h : FosAt w S fs vs) (hk : ∀ p : Addr, S p.block → w'.cell? p = w.cell? p) (hm : ∀ b, S b → S' b) : FosAt w' S' fs vs :=
  ⟨h.1, fun i t hi => by obtain ⟨v, h1, h2⟩ := h.2 i t hi; exact ⟨v, h1, FoAt.more hm _ _ (FoAt.keep hk _ _ h2)⟩⟩
theorem JRel.below {w wr w2 : World} {B : Nat} {ts : List Tr} {v3 v4 : Value} (h : JRel w B ts v3 v4 wr) (hw : w.heap.size ≤ wr.heap.size) (hb : Below wr.heap.size wr w2) : JRel w B ts v3 v4 w2 := by
  obtain ⟨fs, vs, xs, h1, h2, h3, h4, h5⟩ := h
  have hs := hb.size
  exact ⟨fs, vs, xs, h1, own_below h2 hb, FosAt.keepM h3 (fun p hp => hb.cell hp.2.1) (fun b hb => ⟨hb.1, by omega, hb.2.2⟩), own_below h4 hb, h5.below (fun b h => by omega) hb⟩
theorem jpush {w wr w2 w3 w4 : World} {B g3 c3 g4 c4 : Nat} {ts : List Tr} {fs : List Fo} {vs xs cs : List Value} {v3 v4 v : Value} {t : Tr} {f : Fo} {o1 o2 : Obj} (hB : w.heap.size ≤ B) (hBr : B ≤ wr.heap.size)
    (h1 : Fromt ts fs) (h2 : wr.ownsRow B tFo 1 v3 ts.length vs) (h3 : FosAt wr (Jz B v3 v4 wr) fs vs) (h4 : wr.ownsRow B TT 9 v4 ts.length xs) (h5 : TrsC wr (fun b => b < w.heap.size) ts xs)
    (hb2 : Below wr.heap.size wr w2) (hf : FoAt w2 (fun b => wr.heap.size ≤ b ∧ b < w2.heap.size) f v) (hrf : RF t f) (hsm : Sm t)
    (ho3 : w3.ownsRow B tFo 1 (.slice (some ⟨g3, 0, none⟩) (ts.length + 1) c3) (ts.length + 1) (vs ++ [v])) (hg3 : (w2.alloc o1).grownBy w3 v3.ownBlock) (hat3 : v3.ownBlock = some g3 ∨ g3 = w2.heap.size + 1)
    (ho4 : w4.ownsRow B TT 9 (.slice (some ⟨g4, 0, none⟩) (ts.length + 1) c4) (ts.length + 1) (xs ++ cs)) (hg4 : (w3.alloc o2).grownBy w4 v4.ownBlock) (hat4 : v4.ownBlock = some g4 ∨ g4 = w3.heap.size + 1)
    (hT : TreeAt wr (fun b => b < w.heap.size) t cs) :
    JRel w B (ts ++ [t]) (.slice (some ⟨g3, 0, none⟩) (ts.length + 1) c3) (.slice (some ⟨g4, 0, none⟩) (ts.length + 1) c4) w4 := by
  have s2 := hb2.size
  have s3 : w2.heap.size + 1 ≤ w3.heap.size := by have := hg3.size; simpa using this
  have s4 : w3.heap.size + 1 ≤ w4.heap.size := by have := hg4.size; simpa using this
  have o4 : w3.ownsRow B TT 9 v4 ts.length xs := ((own_below h4 hb2).alloc _).kept hg3 (own_ne ((own_below h2 hb2).alloc o1) ((own_below h4 hb2).alloc o1) (show tFo ≠ TT from by decide))
  have k3 : ∀ p : Addr, p.block < w2.heap.size → v3.ownBlock ≠ some p.block → w3.cell? p = w2.cell? p := fun p hp hne => (World.cell?_of_block (hg3.block p.block (by simp; omega) (fun e => hne e.symm))).trans (World.cell?_alloc_lt w2 o1 p hp)
  have k4 : ∀ p : Addr, p.block < w3.heap.size → v4.ownBlock ≠ some p.block → w4.cell? p = w3.cell? p := fun p hp hne => (World.cell?_of_block (hg4.block p.block (by simp; omega) (fun e => hne e.symm))).trans (World.cell?_alloc_lt w3 o2 p hp)
  have k : ∀ p : Addr, p.block < w2.heap.size → v3.ownBlock ≠ some p.block → v4.ownBlock ≠ some p.block → w4.cell? p = w2.cell? p := fun p hp h3 h4 => (k4 p (by omega) h4).trans (k3 p hp h3)
  have hl3 := fun k hk => (h2.lt k hk).2
  have hl4 := fun k hk => (h4.lt k hk).2
  have hm : ∀ b, b < w2.heap.size → v3.ownBlock ≠ some b → v4.ownBlock ≠ some b → B ≤ b → Jz B (.slice (some ⟨g3, 0, none⟩) (ts.length + 1) c3) (.slice (some ⟨g4, 0, none⟩) (ts.length + 1) c4) w4 b := fun b hb n3 n4 hBb => ⟨hBb, by omega, fun e => by
      have e2 : g3 = b := by simpa [Value.ownBlock] using e
      rcases hat3 with h | h
      · exact n3 (by rw [h, e2])
      · omega, fun e => by
      have e2 : g4 = b := by simpa [Value.ownBlock] using e
      rcases hat4 with h | h
      · exact n4 (by rw [h, e2])
      · omega⟩
  have n3 : ∀ b, wr.heap.size ≤ b → v3.ownBlock ≠ some b := fun b hb e => by have := hl3 b e; omega
  have n4 : ∀ b, wr.heap.size ≤ b → v4.ownBlock ≠ some b := fun b hb e => by have := hl4 b e; omega
  have l3 : ∀ b, b < w.heap.size → v3.ownBlock ≠ some b := fun b hb e => by have := (h2.lt b e).1; omega
  have l4 : ∀ b, b < w.heap.size → v4.ownBlock ≠ some b := fun b hb e => by have := (h4.lt b e).1; omega
  have kw : ∀ p : Addr, p.block < w.heap.size → w4.cell? p = wr.cell? p := fun p hp => (k p (by omega) (l3 _ hp) (l4 _ hp)).trans (hb2.cell (by omega))
  refine ⟨fs ++ [f], vs ++ [v], xs ++ cs, fromt_snoc h1 hrf hsm, ?_, fosAt_snoc (FosAt.keepM h3 (fun p hp => (k p (by have := hp.2.1; omega) hp.2.2.1 hp.2.2.2).trans (hb2.cell hp.2.1)) (fun b hb => hm b (by have := hb.2.1; omega) hb.2.2.1 hb.2.2.2 hb.1)) (FoAt.more (fun b hb => hm b hb.2 (n3 b hb.1) (n4 b hb.1) (by omega)) _ _ (FoAt.keep (fun p hp => k p hp.2 (n3 _ hp.1) (n4 _ hp.1)) _ _ hf)), ?_, ?_⟩
  · rw [List.length_append]
    exact (ho3.alloc _).kept hg4 (own_ne (o4.alloc o2) (ho3.alloc o2) (show TT ≠ tFo from by decide))
  · rw [List.length_append]
    exact ho4
  · exact TrsC.append (TrsC.keep (fun p hp => kw p hp) _ _ h5) (TrsC.one (TreeAt.keep (fun p hp => kw p hp) _ _ hT))

set_option maxHeartbeats 16000000 in
set_option maxRecDepth 100000 in
theorem walk (t0 : List Tr) (xs0 : List Value) (A0 : Option Addr) (n0 c0 : Nat) (w : World) (hn0 : n0 = t0.length) (hss0 : SS w (fun b => b < w.heap.size) 9 (.slice A0 n0 c0) n0 xs0) (htr0 : TrsC w (fun b => b < w.heap.size) t0 xs0) :
    Calls Try.prog 7 #[.slice A0 n0 c0] w fun e w' => e = .returned (.bool true) ∧ Below w.heap.size w w' := by
  have HFL := Lib.hid (show ∀ w', Below w.heap.size w w' → _ from fun w' hb => fewlist_any t0 A0 n0 c0 xs0 (fun b => b < w.heap.size) w' (fun b h => Nat.lt_of_lt_of_le h hb.size) hn0 (hss0.below (fun b h => h) hb) (htr0.below (fun b h => h) hb))
  have HN := Lib.hid hn0
  have HSS := Lib.hid hss0
  have HTR := Lib.hid htr0
  obtain ⟨R, hR⟩ : ∃ R, R = fewL t0 := ⟨_, rfl⟩
  rw [← hR] at HFL
  have HR := Lib.hid hR
  clear hR hn0 hss0 htr0
  cases R
  · go_enter Try.func7, Try.ntmps7
    go_wp2_with fail
    refine (awake_any _).mono ?_
    rintro e w1 ⟨rfl, hb1⟩
    have HB1 := Lib.hid hb1
    clear hb1
    go_wp2_with (first
      | (go_at_call 32; (with_reducible refine (HFL.out _ HB1.out).mono ?_); rintro e w2 ⟨rfl, hb2⟩; have HB2 := Lib.hid (HB1.out.trans (hb2.mono HB1.out.size)); clear hb2)
      | (go_at_call 15; refine (awake_any _).mono ?_; rintro e w3 ⟨rfl, hb3⟩))
    go_ret
    exact ⟨rfl, HB2.out.trans (hb3.mono HB2.out.size)⟩
  · have hR := HR.out.symm
    unfold fewL at hR
    obtain ⟨h20, hall⟩ : t0.length ≤ 20 ∧ ∀ t ∈ t0, fewB t 21 = true := by simpa using hR
    have hn20 : n0 ≤ 20 := by have := HN.out; omega
    have HSM := Lib.hid (show ∀ t ∈ t0, Sm t ∧ nn t ≤ 100000 from fun t ht => ⟨fewB_sm (hall t ht), by have := fewB_nn (hall t ht); omega⟩)
    clear hR h20 hall
    obtain ⟨i0, hi0, hz0, hz1, hz2⟩ := info_parts infoTree
    obtain ⟨j0, hj0, hy0, hy1, hy2⟩ := info_parts infoFo
    go_enter Try.func7, Try.ntmps7
    go_wp2_with fail
    refine (awake_any _).mono ?_
    rintro e w1 ⟨rfl, hb1⟩
    have HB1 := Lib.hid hb1
    clear hb1
    go_wp2_with (first
      | (go_at_call 32; (with_reducible refine (HFL.out _ HB1.out).mono ?_); rintro e w2 ⟨rfl, hb2⟩; have HB2 := Lib.hid (HB1.out.trans (hb2.mono HB1.out.size)); clear hb2))
    have hs2 := HB2.out.size
    go_loopw [3, 4, 18] (fun v3 v4 a_ wr => ∃ (i : Nat), i ≤ n0 ∧ a_ = .int .i64 i ∧ Hid (Below w2.heap.size w2 wr) ∧ Hid (JRel w w2.heap.size (rightL (t0.take i)) v3 v4 wr)) (fun _ _ a_ _ => n0 - (intOf a_).toNat)
    case atStart => exact ⟨0, Nat.zero_le _, rfl, Lib.hid (Below.refl _ _), Lib.hid ⟨[], [], [], ⟨rfl, fun i f h => by simp at h⟩, ⟨rfl, .inl ⟨rfl, rfl⟩⟩, FosAt.nil, ⟨rfl, .inl ⟨rfl, rfl⟩⟩, TrsC.nil⟩⟩
    case round =>
      obtain ⟨i, hi, rfl, hbr, hrel⟩ := hrel
      have HBW := Lib.hid (HB2.out.trans (hbr.out.mono hs2))
      by_cases hlt : i < n0
      · obtain ⟨kd, b, o, B1, m1, e1, B2, m2, e2, hkd, rfl, hbS, hT, k0, k1, k2, k3, k4, k5, k6, k7, k8⟩ := kid_cells (HSS.out.below (fun b h => h) HBW.out) (HTR.out.below (fun b h => h) HBW.out) HN.out i hlt
        have hsw := HBW.out.size
        have hmem : kd ∈ t0 := List.mem_of_getElem? hkd
        have hsm := (HSM.out kd hmem).1
        have HIS := Lib.hid (is_any kd _ (fun b => b < w.heap.size) false wr (fun b h => by omega) hT)
        have hOF : ∀ w', Below wr.heap.size wr w' → _ := fun w' hb => of_any kd _ (fun b => b < w.heap.size) w' (fun b h => by have := hb.size; omega) (hT.below (fun b h => by omega) hb) hsm
        have HOF := Lib.hid hOF
        obtain ⟨R, hR⟩ : ∃ R, R = isF kd false := ⟨_, rfl⟩
        have hst := rightL_take hkd
        rw [← hR] at HIS hst
        have HST := Lib.hid hst
        have HR := Lib.hid hR
        have HT := Lib.hid hT
        have HK := Lib.hid hsm
        have hbl : b < w.heap.size := hbS
        have hblr : b < wr.heap.size := by omega
        have hi1 : (0 : Int) ≤ i ∧ (i : Int) < n0 := by omega
        clear hOF hT hkd hmem hsm hbS hst hR
        cases R
        · go_wp2_with (go_at_call 18; refine HIS.out.mono ?_; rintro e w3 ⟨rfl, hb3⟩; have HB3 := Lib.hid hb3; clear hb3)
          go_roundw
          case rel =>
            refine ⟨i + 1, by omega, by go_num, Lib.hid (hbr.out.trans (HB3.out.mono hbr.out.size)), Lib.hid ?_⟩
            rw [HST.out]
            simp only [Bool.false_eq_true, if_false, List.append_nil]
            exact hrel.out.below hsw HB3.out
          case measure => simp [intOf]; omega
        · obtain ⟨f, hf⟩ : ∃ f, ofF kd = some f := by have h := HR.out; rw [isF_ofF] at h; exact Option.isSome_iff_exists.1 h.symm
          have HF := Lib.hid hf
          obtain ⟨fs, vs, xs, h1, h2, h3, h4, h5⟩ := hrel.out
          obtain ⟨M, hM⟩ : ∃ M, M = (rightL (t0.take i)).length := ⟨_, rfl⟩
          have hML := rightL_len t0 i
          have hM20 : M ≤ 20 := by have := HN.out; omega
          rw [← hM] at h2 h4
          have HM := Lib.hid hM
          have H1 := Lib.hid h1
          have H2 := Lib.hid h2
          have H3 := Lib.hid h3
          have H4 := Lib.hid h4
          have H5 := Lib.hid h5
          obtain ⟨r3, q3, rfl⟩ := row_form (by omega) h2
          obtain ⟨r4, q4, rfl⟩ := row_form (by omega) h4
          have hBr := hbr.out.size
          clear hf h1 h2 h3 h4 h5 hM hML hrel
          go_wp2_with (first
            | (go_at_call 18; refine HIS.out.mono ?_; rintro e w3 ⟨rfl, hb3⟩
               have HB3 := Lib.hid hb3
               have t0' := (hb3.cell (p := ⟨b, o + i * 9, none⟩) hblr).trans k0
               have t1' := (hb3.cell (p := ⟨b, o + i * 9 + 1, none⟩) hblr).trans k1
               have t2' := (hb3.cell (p := ⟨b, o + i * 9 + 2, none⟩) hblr).trans k2
               have t3' := (hb3.cell (p := ⟨b, o + i * 9 + 3, none⟩) hblr).trans k3
               have t4' := (hb3.cell (p := ⟨b, o + i * 9 + 4, none⟩) hblr).trans k4
               have t5' := (hb3.cell (p := ⟨b, o + i * 9 + 5, none⟩) hblr).trans k5
               have t6' := (hb3.cell (p := ⟨b, o + i * 9 + 6, none⟩) hblr).trans k6
               have t7' := (hb3.cell (p := ⟨b, o + i * 9 + 7, none⟩) hblr).trans k7
               have t8' := (hb3.cell (p := ⟨b, o + i * 9 + 8, none⟩) hblr).trans k8
               clear hb3)
            | (go_at_call 22; refine (HOF.out _ HB3.out).mono ?_; intro e w4 hp; obtain ⟨v4, rfl, hv4, hb4⟩ := hp.yes HF.out; obtain ⟨u4, z4, rfl⟩ := hv4.iface (ofF_ne HF.out); have HV4 := Lib.hid (FoAt.more (S' := fun b => wr.heap.size ≤ b ∧ b < w4.heap.size) (fun b h => ⟨Nat.le_trans HB3.out.size h.1, h.2⟩) _ _ hv4); have HB4 := Lib.hid (HB3.out.trans (hb4.mono HB3.out.size)); (have hs4 : wr.heap.size ≤ w4.heap.size := HB4.out.size); clear hp hv4 hb4)
            | (at_builtin; refine wpList_append_lies _ rfl (.tmp 34) (.tmp 36) 56 rfl w2.heap.size tFo j0 _ 1 16 Try.underlying56 hj0 hy0 hy1 hy2 rfl (by decide) (.slice r3 M q3) M vs rfl ((own_below H2.out HB4.out).alloc _) ⟨w4.heap.size, 0, none⟩ 1 1 [.iface u4 z4] rfl rfl (cell_one_new _ _ _) (by intro u hu; simp at hu; rw [hu]; rfl) (by omega) (by unfold maxLen; omega) (by omega) (by simp; omega) (w4.heap.size + 1) (by simp) ?_; intro g5 cap5 w5 ho5 hgrow5 hat5 hlt5
               have HO5 := Lib.hid ho5
               have HG5 := Lib.hid hgrow5
               have HAT5 := Lib.hid hat5
               have hs5 : w4.heap.size + 1 ≤ w5.heap.size := by have h := hgrow5.size; simpa using h
               have HK5 := Lib.hid (show ∀ p : Addr, p.block < w.heap.size → w5.cell? p = wr.cell? p from fun p hp => (World.cell?_of_block (HG5.out.block p.block (by simp; omega) (fun e => by have := (H2.out.lt _ e.symm).1; omega))).trans ((World.cell?_alloc_lt w4 _ p (by omega)).trans (HB4.out.cell (by omega))))
               have t0' := (HK5.out ⟨b, o + i * 9, none⟩ hbl).trans k0
               have t1' := (HK5.out ⟨b, o + i * 9 + 1, none⟩ hbl).trans k1
               have t2' := (HK5.out ⟨b, o + i * 9 + 2, none⟩ hbl).trans k2
               have t3' := (HK5.out ⟨b, o + i * 9 + 3, none⟩ hbl).trans k3
               have t4' := (HK5.out ⟨b, o + i * 9 + 4, none⟩ hbl).trans k4
               have t5' := (HK5.out ⟨b, o + i * 9 + 5, none⟩ hbl).trans k5
               have t6' := (HK5.out ⟨b, o + i * 9 + 6, none⟩ hbl).trans k6
               have t7' := (HK5.out ⟨b, o + i * 9 + 7, none⟩ hbl).trans k7
               have t8' := (HK5.out ⟨b, o + i * 9 + 8, none⟩ hbl).trans k8
               have HO4 := Lib.hid (((own_below H4.out HB4.out).alloc _).kept HG5.out (own_ne (own_below H2.out HB4.out) (own_below H4.out HB4.out) (show tFo ≠ TT from by decide)))
               clear ho5 hgrow5 hat5)
            | (at_builtin; refine wpList_append_lies _ rfl (.tmp 38) (.tmp 43) 27 rfl w2.heap.size TT i0 _ 9 104 Try.underlying27 hi0 hz0 hz1 hz2 rfl (by decide) (.slice r4 M q4) M xs rfl (HO4.out.alloc _) ⟨w5.heap.size, 0, none⟩ 1 1 (hdC kd.h (.slice B1 m1 e1) (.slice B2 m2 e2)) rfl rfl (cells_new w5 _ _ _ rfl) (oneC_hdC kd.h _ _ _ _ _ _) (by omega) (by unfold maxLen; omega) (by omega) (by simp; omega) (w5.heap.size + 1) (by simp) ?_; intro g6 cap6 w6 ho6 hgrow6 hat6 hlt6; have HO6 := Lib.hid ho6; have HG6 := Lib.hid hgrow6; have HAT6 := Lib.hid hat6; clear ho6 hgrow6 hat6))
          go_roundw
          case rel =>
            have hs6 : w5.heap.size + 1 ≤ w6.heap.size := by have h := HG6.out.size; simpa using h
            have hb6 : Below w2.heap.size w2 w6 := by
              have hb4 : Below w2.heap.size w2 w4 := hbr.out.trans (HB4.out.mono hbr.out.size)
              have hb5 : Below w2.heap.size w2 w5 := (hb4.alloc hb4.size _).grown HG5.out (by simp; omega) (fun k hk => (H2.out.lt k hk).1)
              exact (hb5.alloc hb5.size _).grown HG6.out (by simp; omega) (fun k hk => (H4.out.lt k hk).1)
            refine ⟨i + 1, by omega, by go_num, Lib.hid hb6, Lib.hid ?_⟩
            rw [HST.out]
            simp only [if_true]
            have e1 := HM.out
            have h := jpush (ts := rightL (t0.take i)) (w := w) (wr := wr) (o1 := .cells #[.iface u4 z4] tFo) hs2 hBr H1.out (by rw [← e1]; exact H2.out) H3.out (by rw [← e1]; exact H4.out) H5.out HB4.out HV4.out (rf_of _ _ HF.out) HK.out (by rw [← e1]; exact HO5.out) HG5.out HAT5.out (by rw [← e1]; exact HO6.out) HG6.out HAT6.out HT.out
            rw [← e1] at h
            exact h
          case measure => simp [intOf]; omega
      · obtain ⟨L, hL⟩ : ∃ L, L = rightL t0 := ⟨_, rfl⟩
        have hLs : ∀ t ∈ L, t ∈ t0 := fun t ht => by rw [hL] at ht; exact (List.mem_filter.1 ht).1
        obtain ⟨fs, vs, xs, h1, h2, h3, h4, h5⟩ := hrel.out
        rw [show rightL (t0.take i) = L by rw [List.take_of_length_le (by have := HN.out; omega), hL]] at h1 h2 h4 h5
        have hL20 : L.length ≤ 20 := by have := rightL_len t0 t0.length; rw [List.take_length, ← hL] at this; have := HN.out; omega
        obtain ⟨M, hM⟩ : ∃ M, M = L.length := ⟨_, rfl⟩
        rw [← hM] at h2 h4
        obtain ⟨r3, q3, rfl⟩ := row_form (by omega) h2
        obtain ⟨r4, q4, rfl⟩ := row_form (by omega) h4
        have hsw := HBW.out.size
        have hS3 := (SS.of_own h2).more (S' := fun b => b < wr.heap.size) (fun b h => h.2)
        have hF3 := FosAt.keepM h3 (w' := wr) (S' := fun b => b < wr.heap.size) (fun p hp => rfl) (fun b h => h.2.1)
        have hS4 := (SS.of_own h4).more (S' := fun b => b < wr.heap.size) (fun b h => h.2)
        have hT4 := TrsC.more (S' := fun b => b < wr.heap.size) (fun b h => by omega) _ _ h5
        have HMF := Lib.hid (show M = fs.length by rw [hM, h1.1])
        have HALL := Lib.hid (all_any L fs r3 M q3 vs (fun b => b < wr.heap.size) wr (fun b h => h) HMF.out (by omega) hS3 hF3 h1)
        have HANY := Lib.hid (show ∀ w', Below wr.heap.size wr w' → _ from fun w' hb => any_any L fs r3 M q3 vs (fun b => b < wr.heap.size) w' (fun b h => Nat.lt_of_lt_of_le h hb.size) HMF.out (by omega) (hS3.below (fun b h => h) hb) (FosAt.keepM hF3 (fun p hp => hb.cell hp) (fun b h => h)) h1)
        have HPT := Lib.hid (show ∀ w' v, FoAt w' (fun b => b < w'.heap.size) (joinF true fs) v → Calls Try.prog 23 #[v] w' (TreePost (foldT true L) w') from fun w' v hv => by
          rw [← plain_join true L fs h1]
          exact plain_any _ v _ w' (fun b h => h) hv (smF_join true L fs h1))
        have HPF := Lib.hid (show ∀ w' v, FoAt w' (fun b => b < w'.heap.size) (joinF false fs) v → Calls Try.prog 23 #[v] w' (TreePost (foldT false L) w') from fun w' v hv => by
          rw [← plain_join false L fs h1]
          exact plain_any _ v _ w' (fun b h => h) hv (smF_join false L fs h1))
        have HFO := Lib.hid (show ∀ (b : Bool) w', Below wr.heap.size wr w' → Calls Try.prog 34 #[.slice r4 M q4, .bool b] w' (TreePost (foldT b L) w') from fun b w' hb => fold_any L b r4 M q4 xs (fun b => b < wr.heap.size) w' (fun b h => Nat.lt_of_lt_of_le h hb.size) hM (by omega) (hS4.below (fun b h => h) hb) (hT4.below (fun b h => h) hb) (fun t ht => HSM.out t (hLs t ht)))
        clear hL hLs h1 h2 h3 h4 h5 hM hS3 hF3 hS4 hT4 hrel hL20
        go_wp2_with fail
        (with_reducible refine HALL.out.mono ?_)
        rintro e wa ⟨va, rfl, hva, hba⟩
        have HVA := Lib.hid (FoAt.more (S' := fun b => b < wa.heap.size) (fun b h => h.2) _ _ hva)
        have HBA := Lib.hid hba
        clear hva hba
        go_wp2_with fail
        (with_reducible refine (HPT.out _ _ HVA.out).mono ?_)
        intro e wb hq
        obtain ⟨a1, a2, a3, a4, a5, a6, x1, x2, x3, x4, x5, x6, x7, rfl, htb, hbb⟩ := hq.cells
        have HTB := Lib.hid htb
        have HBB := Lib.hid (HBA.out.trans (hbb.mono HBA.out.size))
        clear htb hbb hq
        go_wp2_with fail
        (with_reducible refine (HFO.out true _ HBB.out).mono ?_)
        intro e wc hq
        obtain ⟨b1, b2, b3, b4, b5, b6, y1, y2, y3, y4, y5, y6, y7, rfl, htc, hbc⟩ := hq.cells
        have HSA := Lib.hid (same_any (foldT true L) (foldT true L) _ _ (fun b => b < wc.heap.size) true wc (fun b h => h) (TreeAt.more (fun b h => Nat.lt_of_lt_of_le h.2 hbc.size) _ _ (HTB.out.below (fun b h => h.2) hbc)) (TreeAt.more (fun b h => h.2) _ _ htc) (by simp))
        have HBC := Lib.hid (HBB.out.trans (hbc.mono HBB.out.size))
        clear htc hbc hq
        go_wp2_with fail
        (with_reducible refine HSA.out.mono ?_)
        rintro e wd ⟨rfl, hbd⟩
        have HBD := Lib.hid (HBC.out.trans (hbd.mono HBC.out.size))
        clear hbd
        go_wp2_with fail
        (with_reducible refine (HANY.out _ HBD.out).mono ?_)
        rintro e we ⟨ve, rfl, hve, hbe⟩
        have HVE := Lib.hid (FoAt.more (S' := fun b => b < we.heap.size) (fun b h => h.2) _ _ hve)
        have HBE := Lib.hid (HBD.out.trans (hbe.mono HBD.out.size))
        clear hve hbe
        go_wp2_with fail
        (with_reducible refine (HPF.out _ _ HVE.out).mono ?_)
        intro e wf hq
        obtain ⟨c1, c2, c3, c4, c5, c6, p1, p2, p3, p4, p5, p6, p7, rfl, htf, hbf⟩ := hq.cells
        have HTF := Lib.hid htf
        have HBF := Lib.hid (HBE.out.trans (hbf.mono HBE.out.size))
        clear htf hbf hq
        go_wp2_with fail
        (with_reducible refine (HFO.out false _ HBF.out).mono ?_)
        intro e wg hq
        obtain ⟨d1, d2, d3, d4, d5, d6, q1, q2, q3', q4', q5, q6, q7, rfl, htg, hbg⟩ := hq.cells
        have HSB := Lib.hid (same_any (foldT false L) (foldT false L) _ _ (fun b => b < wg.heap.size) true wg (fun b h => h) (TreeAt.more (fun b h => Nat.lt_of_lt_of_le h.2 hbg.size) _ _ (HTF.out.below (fun b h => h.2) hbg)) (TreeAt.more (fun b h => h.2) _ _ htg) (by simp))
        have HBG := Lib.hid (HBF.out.trans (hbg.mono HBF.out.size))
        clear htg hbg hq
        go_wp2_with fail
        (with_reducible refine HSB.out.mono ?_)
        rintro e wh ⟨rfl, hbh⟩
        have HBH := Lib.hid (HBG.out.trans (hbh.mono HBG.out.size))
        clear hbh
        go_wp2_with fail
        go_ret
        exact ⟨rfl, HBW.out.trans (HBH.out.mono HBW.out.size)⟩

theorem laidOut : laidOutB Try.prog = true := by kernel_rfl

theorem own : ownKnob Try.prog.godebug = none := by kernel_rfl

set_option maxRecDepth 100000 in
theorem lifted (os : Os) (started : os.Started) (H : Type) (enc : TypeId × Value → H) :
    ReturnsInHanded {} Try.checked os 7 .any (Rows.formulaJoinsSpec.pre6 enc Try.prog Try.f7 Rows.formulaJoinsRow.domain false) (Rows.formulaJoinsSpec.post enc Try.prog Try.f7 false true false false) := by
  refine returnsInHanded_of_change (C := Try.checked) own started (by kernel_rfl) Try.func7
    (ChangeSpec.witness6 (enc := enc) (C := Try.checked) false ⟨#[], #[.slice none 0 0], []⟩ 8 (by kernel_rfl) (by kernel_rfl) (by kernel_rfl) (by kernel_rfl)) ?_
  intro W base args ds gs before hval0 hW hcnd _
  have hval : ∀ (j : Nat) t v, Try.f7.params[j]? = some t → args[j]? = some v → Value.okWide Try.prog W .any base t v := hval0
  have hW' := hW
  obtain ⟨p, q, hA0, hV, rfl, hfz, hnd⟩ := hW
  have hA : DataW.TrodAll enc Try.prog W 0 (fun _ => true) true Try.f7.params.toList args.toList ds p := hA0
  rw [Try.params7] at hA hval
  obtain ⟨v0, vs0, d0, ds0, p0, q0, hargs, rfl, rfl, h0, r0⟩ := trodAll_cons hA
  obtain ⟨rfl, rfl, rfl⟩ := trodAll_nil r0
  obtain rfl : args = #[v0] := by cases args; simp_all
  obtain ⟨rfl, rfl⟩ := trodVars_none hV
  obtain ⟨A0, n0, c0, rfl⟩ := okWide_slice Try.underlying27 (hval 0 27 v0 rfl rfl)
  have h0k := h0
  obtain ⟨fuel0, hf0⟩ := h0
  obtain ⟨A0', n0', c0', he0, t0, xs0, hn0, hss0, htr0⟩ := open_trees hf0
  simp only [Value.cells, List.cons.injEq, and_true] at he0
  injection he0 with e1 e2 e3
  subst e1; subst e2; subst e3
  clear hA0 hval0
  simp only [List.append_nil] at hW'
  have hlt0 : ∀ x ∈ p0, x.block < W.heap.size := fun x hx => by simpa using hW'.lt x (by simp [hx])
  refine (walk t0 xs0 A0 n0 c0 W hn0 hss0 htr0).mono fun e W' ⟨he, bel⟩ => ?_
  subst he
  exact ⟨_, rfl, _, _, _, [], _, [], hW', trodAll_mk1 (shut_bool Try.underlying4 _), (trodAll_cons_mk (Below.trod laidOut (by kernel_rfl) (of_decide_eq_true (by kernel_rfl)) h0k bel hlt0) trodAll_mk0), rfl, bel.frame _, fun h => by cases h⟩

theorem over : Rows.formulaJoinsRow.holds Try.pinned (OpenSpec.ofChange Rows.formulaJoinsSpec) :=
  OpenClaim.holds_of_wide 7 Try.f7 rfl rfl rfl rfl rfl rfl rfl ⟨rfl, rfl, rfl, rfl, rfl⟩ rfl rfl rfl rfl rfl (by kernel_rfl) Try.func7 (by kernel_rfl)
    (of_decide_eq_true (by kernel_rfl)) (by unfold Func.isWrapper; first | (rw [if_pos (by decide +kernel)]; kernel_rfl) | (rw [if_neg (by decide +kernel)]; exact ⟨rfl, rfl⟩))
    (fun os started H enc _ => lifted os started H enc)

/-- THE STATEMENT -/
theorem proved : Rows.FormulaJoinsSaid := over
end Go.Proofs.Ytjbgdaojhdobkaa.formulaJoins
