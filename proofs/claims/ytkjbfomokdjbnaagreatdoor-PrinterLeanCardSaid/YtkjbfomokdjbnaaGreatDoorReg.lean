/-
  A region that draws its order, cut into segments: operations that only read, in whatever order, up to one that may write and that stands alone; then the next segment.
-/
import Derived.StillTail
import Derived.StillTactics
import Derived.WalkKit
namespace Go.Proofs.YtkjbfomokdjbnaaGreatDoor
set_option linter.unusedSimpArgs false
set_option linter.unusedVariables false
section
variable {P : Program} {ops : Array Oper} {md : Region.Mode} {w : World}

def segSink (md : Region.Mode) (ops : Array Oper) (k n : Nat) : Bool :=
  (List.range n).all fun i => decide (i < k) || (List.range (n + 1)).any fun j => decide (i < j) && Region.waitsFor md ops j i
def segTail (md : Region.Mode) (ops : Array Oper) (n : Nat) : Bool :=
  (List.range ops.size).all fun t => decide (t ≤ n) || (List.range t).any fun u => decide (n ≤ u) && Region.waitsFor md ops t u

structure SegInv (md : Region.Mode) (ops : Array Oper) (k n : Nat) (listed : Array Bool) : Prop where
  size : listed.size = ops.size
  closed : ∀ j oj, ops[j]? = some oj → listed.getD j false = true → ∀ e ∈ oj.after, Region.binds md e = true → listed.getD e.on false = true
  tail : ∀ t, n ≤ t → t < ops.size → listed.getD t true = false
  low : ∀ i, i < k → listed.getD i true = true

theorem SegInv.set {k n i : Nat} {listed : Array Bool} (inv : SegInv md ops k n listed) (hi : i ∈ Region.ready md ops listed) (hin : i < n) : SegInv md ops k n (listed.setIfInBounds i true) := by
  obtain ⟨_, oi, hoi, hall⟩ := mem_ready.1 hi
  refine ⟨by simp [inv.size], fun j oj hj hl e he hb => ?_, fun t ht ht' => by rw [getD_set_ne true (by omega)]; exact inv.tail t ht ht', fun j hj => ?_⟩
  · by_cases hij : i = j
    · subst hij
      have : oj = oi := Option.some.inj (hj.symm.trans hoi)
      subst this
      exact getD_set_true (hall e he hb)
    · rw [getD_set_ne false hij] at hl
      exact getD_set_true (inv.closed j oj hj hl e he hb)
  · by_cases hij : i = j
    · subst hij
      have h1 := inv.low i hj
      have h2 := (mem_ready.1 hi).1
      rw [h1] at h2; cases h2
    · rw [getD_set_ne true hij]; exact inv.low j hj

theorem seg_waits {k n : Nat} {listed : Array Bool} (hs : segSink md ops k n = true) (hc : segTail md ops n = true) (hn : n < ops.size) (inv : SegInv md ops k n listed) :
    ∀ (d i : Nat), n - i = d → i < n → listed.getD i true = false → ∀ t, n ≤ t → t ∉ Region.ready md ops listed := by
  intro d
  induction d using Nat.strongRecOn with
  | _ d ih =>
    intro i hd hi hun t ht hr
    obtain ⟨_, ot, hot, hall⟩ := mem_ready.1 hr
    have htlt : t < ops.size := (Array.getElem?_eq_some_iff.1 hot).1
    by_cases htn : t = n
    · subst htn
      have h1 := List.all_eq_true.1 hs i (List.mem_range.2 hi)
      simp only [Bool.or_eq_true, decide_eq_true_eq] at h1
      rcases h1 with h1 | h1
      · have := inv.low i h1
        rw [this] at hun; cases hun
      obtain ⟨j, hj, hj2⟩ := List.any_eq_true.1 h1
      simp only [Bool.and_eq_true, decide_eq_true_eq] at hj2
      obtain ⟨oj, hoj, e, he, hb, hon⟩ := Region.waitsFor_spec hj2.2
      have hjle : j ≤ t := by have := List.mem_range.1 hj; omega
      by_cases hjt : j = t
      · subst hjt
        have : oj = ot := Option.some.inj (hoj.symm.trans hot)
        subst this
        have h2 := hall e he hb
        rw [hon, getD_both hun] at h2
        cases h2
      · cases hl : listed.getD j false with
        | true =>
          have h2 := inv.closed j oj hoj hl e he hb
          rw [hon, getD_both hun] at h2
          cases h2
        | false =>
          have hjs : j < listed.size := by rw [inv.size]; omega
          exact ih (t - j) (by omega) j rfl (by omega) (getD_in hjs hl) t (Nat.le_refl _) hr
    · have h1 := List.all_eq_true.1 hc t (List.mem_range.2 htlt)
      simp only [Bool.or_eq_true, decide_eq_true_eq] at h1
      rcases h1 with h1 | h1
      · omega
      · obtain ⟨u, hu, hu2⟩ := List.any_eq_true.1 h1
        simp only [Bool.and_eq_true, decide_eq_true_eq] at hu2
        obtain ⟨o', ho', e, he, hb, hon⟩ := Region.waitsFor_spec hu2.2
        have : o' = ot := Option.some.inj (ho'.symm.trans hot)
        subst this
        have hut := List.mem_range.1 hu
        have h2 := hall e he hb
        rw [hon, getD_both (inv.tail u hu2.1 (by omega))] at h2
        cases h2

theorem seg_first {k n i : Nat} {oi : Oper} {v : Value} {L : Array Bool → Act → Prop} (hi : ops[i]? = some oi) (hsel : ∀ (j : Nat) (o : Oper) cs b, ops[j]? = some o → o.op ≠ .select cs b)
    (hs : segSink md ops k n = true) (hc : segTail md ops n = true) (hn : n < ops.size) (hin : i < n)
    (hdone : ∀ listed a, L listed a → ∀ j ∈ Region.ready md ops listed, n ≤ j) :
    ∀ (f : Nat) (listed : Array Bool) (a : Act), SegInv md ops k n listed →
      (∀ j oj, ops[j]? = some oj → j ≠ i → listed.getD j true = false → (∀ e ∈ oj.after, Region.binds md e = true → e.on ≠ i) → oi.apart ops oj = true) →
      i ∈ Region.ready md ops listed → YieldsAt P ops w oi v a →
      wpAnyL P md ops w n L f (listed.setIfInBounds i true) (a.put oi.dst v) → wpAnyL P md ops w n L (f + 1) listed a := by
  intro f
  induction f with
  | zero =>
    intro listed a inv _ hr hy H
    have hun := (mem_ready.1 hr).1
    refine ⟨fun h => (by rw [h] at hr; cases hr), fun j hj => ?_⟩
    have hjn : j < n := by
      rcases Nat.lt_or_ge j n with h | h
      · exact h
      · exact absurd hj (seg_waits hs hc hn inv _ i rfl hin hun j h)
    refine ⟨hjn, ?_⟩
    by_cases hji : j = i
    · subst hji; exact hy.stOp hi H
    · have := hdone _ _ H j (ready_mono hj hji)
      omega
  | succ f ih =>
    intro listed a inv hfree hr hy H
    have hun := (mem_ready.1 hr).1
    refine ⟨fun h => (by rw [h] at hr; cases hr), fun j hj => ?_⟩
    have hjn : j < n := by
      rcases Nat.lt_or_ge j n with h | h
      · exact h
      · exact absurd hj (seg_waits hs hc hn inv _ i rfl hin hun j h)
    refine ⟨hjn, ?_⟩
    by_cases hji : j = i
    · subst hji; exact hy.stOp hi H
    · have h1 := (H.2 j (ready_mono hj hji)).2
      obtain ⟨hjun, oj, hoj, hall⟩ := mem_ready.1 hj
      have hnot : ∀ e ∈ oj.after, Region.binds md e = true → e.on ≠ i := fun e he hb heq => by
        have h1 := hall e he hb
        rw [heq, getD_both hun] at h1
        cases h1
      have h2 := stOp_put hoj (hfree j oj hoj hji hjun hnot) (fun cs b => hsel i oi cs b hi) (fun cs b => hsel j oj cs b hoj) hy h1
      have hfree' : ∀ k ok, ops[k]? = some ok → k ≠ i → (listed.setIfInBounds j true).getD k true = false →
          (∀ e ∈ ok.after, Region.binds md e = true → e.on ≠ i) → oi.apart ops ok = true := fun k ok hk hki hun hno => by
        refine hfree k ok hk hki ?_ hno
        by_cases hjk : j = k
        · subst hjk; exact hjun
        · rw [getD_set_ne true hjk] at hun; exact hun
      refine stOp_mono (fun a' h3 => ih (listed.setIfInBounds j true) a' (inv.set hj hjn) hfree' (ready_mono hr (Ne.symm hji)) h3.1 ?_) h2
      rw [Array.setIfInBounds_comm _ _ hji]
      exact h3.2

def segGo (md : Region.Mode) (ops : Array Oper) (E : Array Bool → Bool) : Nat → Nat → Array Bool → Bool
  | 0, _, listed => E listed
  | f + 1, k, listed => (Region.ready md ops listed).contains k && Region.free md ops listed k && segGo md ops E f (k + 1) (listed.setIfInBounds k true)
/-- the segments: the places of the operations that stand alone -/
def segsB (md : Region.Mode) (ops : Array Oper) : List Nat → Nat → Nat → Array Bool → Bool
  | [], f, k, listed => Region.lexFrom md ops f k listed
  | n :: ns, f, k, listed => decide (k ≤ n) && decide (n < ops.size) && decide (f = ops.size - k) && segSink md ops k n && segTail md ops n &&
      segGo md ops (fun l => decide (Region.ready md ops l = [n]) && segsB md ops ns (ops.size - (n + 1)) (n + 1) (l.setIfInBounds n true)) (n - k) k listed

def wpSegs (P : Program) (ops : Array Oper) (Q : Exit → Act → World → Prop) : List Nat → Nat → List Oper → Act → World → Prop
  | [], _, l, a, w => wpStill P ops w (fun a' => Q .normal a' w) l a
  | n :: ns, k, l, a, w => wpStill P ops w (fun a' => wpList P ops (Exit.then (fun a'' w'' => wpSegs P ops Q ns (n + 1) (l.drop (n + 1 - k)) a'' w'') Q) ((l.drop (n - k)).take 1) a' w) (l.take (n - k)) a

theorem wpOp_of_one {Q : Exit → Act → World → Prop} {K : Act → World → Prop} {n : Nat} {o : Oper} {a : Act} (ho : ops[n]? = some o) (h : wpList P ops (Exit.then K Q) [o] a w) : wpOp P ops Q n K a w := by
  unfold wpOp
  simp only [ho]
  unfold wpList at h
  split
  · rename_i hw
    simp only [hw, if_true] at h
    rcases h with h | h
    · left
      unfold Oper.wp at *
      generalize (execOp a.eval o).run P w = r at *
      cases r with
      | ok m w' =>
        cases m <;> simp only [Oper.upon] at h ⊢ <;>
          first
            | exact h
            | exact Calls.mono h (fun e w'' he => by cases e <;> exact he)
            | exact Rows.mono h (fun _ _ he => he)
      | halt x w' => cases x <;> simp only [Oper.upon] at h ⊢ <;> exact h
    · right; exact h
  · rename_i hw
    simp only [hw] at h
    exact h

/-- the invariant at the start of a segment -/
structure SegAt (md : Region.Mode) (ops : Array Oper) (k : Nat) (listed : Array Bool) : Prop where
  size : listed.size = ops.size
  closed : ∀ j oj, ops[j]? = some oj → listed.getD j false = true → ∀ e ∈ oj.after, Region.binds md e = true → listed.getD e.on false = true
  low : ∀ i, i < k → listed.getD i true = true
  high : ∀ i, k ≤ i → i < ops.size → listed.getD i true = false

theorem SegAt.next {k : Nat} {listed : Array Bool} (h : SegAt md ops k listed) (hr : k ∈ Region.ready md ops listed) : SegAt md ops (k + 1) (listed.setIfInBounds k true) := by
  obtain ⟨hun, oi, hoi, hall⟩ := mem_ready.1 hr
  have hk : k < ops.size := (Array.getElem?_eq_some_iff.1 hoi).1
  refine ⟨by simp [h.size], fun j oj hj hl e he hb => ?_, fun i hi => ?_, fun i hi hi2 => by rw [getD_set_ne true (by omega)]; exact h.high i (by omega) hi2⟩
  · by_cases hij : k = j
    · subst hij
      have : oj = oi := Option.some.inj (hj.symm.trans hoi)
      subst this
      exact getD_set_true (hall e he hb)
    · rw [getD_set_ne false hij] at hl
      exact getD_set_true (h.closed j oj hj hl e he hb)
  · by_cases hik : i = k
    · subst hik
      have : i < listed.size := by rw [h.size]; exact hk
      simp [this]
    · rw [getD_set_ne true (by omega)]; exact h.low i (by omega)

theorem SegInv.of_at {k0 k n : Nat} {listed : Array Bool} (h : SegAt md ops k listed) (h0 : k0 ≤ k) (hn : k ≤ n) : SegInv md ops k0 n listed :=
  ⟨h.size, h.closed, fun t ht ht2 => h.high t (by omega) ht2, fun i hi => h.low i (by omega)⟩

theorem segs_lex {k0 n : Nat} {E : Array Bool → Bool} {Lq : Act → Prop} (hE : ∀ l, E l = true → Region.ready md ops l = [n]) (hsel : Region.noSelect ops = true) (hs : segSink md ops k0 n = true) (hc : segTail md ops n = true) (hn : n < ops.size) :
    ∀ (l : List Oper) (k : Nat) (listed : Array Bool) (a : Act), (∀ j, j < l.length → l[j]? = ops[k + j]?) → k + l.length = n → k0 ≤ k → SegAt md ops k listed →
    segGo md ops E l.length k listed = true → wpStill P ops w Lq l a →
    wpAnyL P md ops w n (fun listed' a' => (SegAt md ops n listed' ∧ E listed' = true) ∧ Lq a') l.length listed a
  | [], k, listed, a, _, hk, _, hat, hB, h => by
    have : k = n := by simpa using hk
    subst this
    exact ⟨⟨hat, hB⟩, h⟩
  | o :: l, k, listed, a, hl, hk, h0k, hat, hB, h => by
    have h0 : ops[k]? = some o := by simpa using (hl 0 (by simp)).symm
    simp only [List.length_cons, segGo, Bool.and_eq_true] at hB
    obtain ⟨⟨hr, hf⟩, hB'⟩ := hB
    have hkn : k < n := by simp only [List.length_cons] at hk; omega
    have hr' : k ∈ Region.ready md ops listed := by simpa using hr
    have hst : stOp P ops w k (wpStill P ops w Lq l) a := by unfold stOp; simp only [h0]; exact h
    obtain ⟨v, hy, hK⟩ := yieldsAt_of_stOp h0 hst
    refine seg_first h0 (Region.noSelect_spec hsel) hs hc hn hkn (fun listed' a' hL => ?_) l.length listed a (SegInv.of_at hat h0k (Nat.le_of_lt hkn)) (Region.free_spec h0 hf) hr' hy ?_
    · intro j hj
      rw [hE _ hL.1.2] at hj
      have : j = n := by simpa using hj
      omega
    · exact segs_lex hE hsel hs hc hn l (k + 1) _ _ (fun j hj => by have := hl (j + 1) (by simp; omega); simpa [Nat.add_assoc, Nat.add_comm 1 j] using this) (by simp only [List.length_cons] at hk; omega) (by omega) (hat.next hr') hB' hK

theorem wpAny_segs {Q : Exit → Act → World → Prop} (hsel : Region.noSelect ops = true) : ∀ (ns : List Nat) (k : Nat) (listed : Array Bool) (l : List Oper) (a : Act) (w : World),
    (∀ j, l[j]? = ops[k + j]?) → k + l.length = ops.size → SegAt md ops k listed → segsB md ops ns l.length k listed = true → wpSegs P ops Q ns k l a w → wpAny P md ops Q l.length listed a w
  | [], k, listed, l, a, w, hl, hsz, hat, hB, h =>
    wpAny_of_still (Q := fun a' => Q .normal a' w) (fun _ h => h) _ _ _ (wpAnyS_lex hsel l k listed a hl (by simpa [segsB] using hB) h)
  | n :: ns, k, listed, l, a, w, hl, hsz, hat, hB, h => by
    simp only [segsB, Bool.and_eq_true, decide_eq_true_eq] at hB
    obtain ⟨⟨⟨⟨⟨hkn, hn⟩, _⟩, hs⟩, hc⟩, hgo⟩ := hB
    have htl : (l.take (n - k)).length = n - k := by rw [List.length_take]; omega
    have hlen : l.length = (n - k) + ((ops.size - (n + 1)) + 1) := by omega
    unfold wpSegs at h
    have H := segs_lex (P := P) (md := md) (E := fun l => decide (Region.ready md ops l = [n]) && segsB md ops ns (ops.size - (n + 1)) (n + 1) (l.setIfInBounds n true)) (fun l hl => by
      have hl2 : (decide (Region.ready md ops l = [n]) && segsB md ops ns (ops.size - (n + 1)) (n + 1) (l.setIfInBounds n true)) = true := hl
      rw [Bool.and_eq_true, decide_eq_true_eq] at hl2; exact hl2.1) hsel hs hc hn (l.take (n - k)) k listed a (fun j hj => by
      rw [htl] at hj; rw [List.getElem?_take, if_pos hj]; exact hl j) (by rw [htl]; omega) (Nat.le_refl _) hat (by rw [htl]; exact hgo) h
    rw [htl] at H
    rw [hlen]
    refine wpAny_of_head (fun listed' a' hL => ?_) _ _ _ H
    obtain ⟨⟨hat', hgo'⟩, hK⟩ := hL
    rw [Bool.and_eq_true, decide_eq_true_eq] at hgo'
    obtain ⟨hready, hrest⟩ := hgo'
    have hn0 : (l.drop (n - k))[0]? = ops[n]? := by
      rw [List.getElem?_drop, hl]; congr 1; omega
    obtain ⟨o, ho⟩ : ∃ o, ops[n]? = some o := ⟨ops[n], Array.getElem?_eq_getElem hn⟩
    have h1 : (l.drop (n - k)).take 1 = [o] := by
      cases hd : l.drop (n - k) with
      | nil => rw [hd] at hn0; rw [ho] at hn0; simp at hn0
      | cons x xs =>
        rw [hd, ho] at hn0
        have : x = o := by simpa using hn0
        rw [this]; rfl
    rw [h1] at hK
    refine ⟨fun h0 => (by rw [hready] at h0; cases h0), fun i hi => ?_⟩
    rw [hready] at hi
    have hin : i = n := by simpa using hi
    subst hin
    refine wpOp_mono (fun a'' w'' hw => ?_) (wpOp_of_one ho hK)
    have hld : (l.drop (i + 1 - k)).length = ops.size - (i + 1) := by rw [List.length_drop]; omega
    have := wpAny_segs hsel ns (i + 1) (listed'.setIfInBounds i true) (l.drop (i + 1 - k)) a'' w'' (fun j => by
      rw [List.getElem?_drop, hl]; congr 1; omega) (by rw [hld]; omega) (hat'.next (by rw [hready]; simp)) (by rw [hld]; exact hrest) hw
    rwa [hld] at this

theorem segAt_zero : SegAt md ops 0 (Array.replicate ops.size false) :=
  ⟨by simp, fun j oj _ hl => (by rw [getD_replicate_false] at hl; cases hl), fun i hi => absurd hi (by omega), fun i _ hi => getD_in (by simpa using hi) (getD_replicate_false _ _)⟩

/-- A REGION THAT DRAWS ITS ORDER, BY SEGMENTS. ns: the places of the operations that stand alone (calls that write, stores, appends), in the text's order. -/
theorem wp_region_segs {id : Nat} {Q : Exit → Act → World → Prop} {a : Act} {w : World} {l : List Oper} (ns : List Nat) (hm : P.follows .mixedOrders = true)
    (hB : (Region.noSelect l.toArray && segsB .any l.toArray ns l.length 0 (Array.replicate l.toArray.size false)) = true)
    (h : wpSegs P l.toArray Q ns 0 l a w.drew) : (Code.region id l.toArray true).wp P Q a w := by
  rw [Bool.and_eq_true] at hB
  refine wp_region_any hm ?_
  have := wpAny_segs (md := .any) (P := P) (Q := Q) hB.1 ns 0 _ l a w.drew (fun j => by simp) (by simp) segAt_zero hB.2 h
  simpa using this
end
end Go.Proofs.YtkjbfomokdjbnaaGreatDoor
