/-
  formula.visit: it hands on the subformulas of a formula, each ahead of those in it, with its depth.
-/
import Derived.Test.YtjbgdaojhdobkaaRou
import Derived.Test.YtjbgdaojhdobkaaFmU
import Derived.Test.YtjbgdaojhdobkaaFmPF
import Derived.Shelf.Abstract
import Derived.Shelf.RegionOpen
import Derived.WalkKit
import Derived.OwnWalkIn
import Derived.TacticsInMore
import Derived.LoopNIn
import Derived.LoopIn
namespace Go.Proofs.Ytjbgdaojhdobkaa
open Go.RowKit Go.Shelf
set_option linter.unusedSimpArgs false
set_option linter.unusedVariables false
namespace Vs
open Fm
attribute [local go_sem] run_store Oper.semAt_some

/-- the subformulas of a formula with their depths -/
def flatO : Fo → Int → List (Int × Fo)
  | .not f, d => (d, .not f) :: flatO f (d + 1)
  | .and l r, d => (d, .and l r) :: (flatO l (d + 1) ++ flatO r (d + 1))
  | .or l r, d => (d, .or l r) :: (flatO l (d + 1) ++ flatO r (d + 1))
  | .implies l r, d => (d, .implies l r) :: (flatO l (d + 1) ++ flatO r (d + 1))
  | .iff l r, d => (d, .iff l r) :: (flatO l (d + 1) ++ flatO r (d + 1))
  | .quant a n f, d => (d, .quant a n f) :: flatO f (d + 1)
  | f, d => [(d, f)]
theorem flatO_sub (f : Fo) (d : Int) : flatO f d = (d, f) :: ((subF f).map fun k => flatO k (d + 1)).flatten := by
  cases f <;> simp [flatO, subF]
/-- how deep a formula is -/
def hgt : Fo → Nat
  | .not f => hgt f + 1
  | .and l r => max (hgt l) (hgt r) + 1
  | .or l r => max (hgt l) (hgt r) + 1
  | .implies l r => max (hgt l) (hgt r) + 1
  | .iff l r => max (hgt l) (hgt r) + 1
  | .quant _ _ f => hgt f + 1
  | _ => 0
theorem hgt_sub (f k : Fo) (h : k ∈ subF f) : hgt k + 1 ≤ hgt f := by
  cases f <;> simp [subF] at h <;> first | (subst h; simp [hgt]; done) | (rcases h with rfl | rfl <;> simp [hgt] <;> omega)
theorem smf_sub (f k : Fo) (hs : SmF f) (h : k ∈ subF f) : SmF k := by
  cases f <;> simp [subF] at h <;> first | (subst h; exact hs) | (rcases h with rfl | rfl; exact hs.1; exact hs.2)

/-- what comes: a depth, a formula, its value -/
structure Itm where
  d : Int
  f : Fo
  v : Value
abbrev It (w0 : World) (S : Nat → Prop) := { x : Itm // FoAt w0 S x.f x.v ∧ SmF x.f }
def It.pr {w0 : World} {S : Nat → Prop} (x : It w0 S) : Int × Fo := (x.1.d, x.1.f)

theorem parts_all (f : Fo) (v : Value) (S : Nat → Prop) (w0 : World) (h : FoAt w0 S f v) : ∃ vs, FosAt w0 S (subF f) vs ∧ ∀ w, Calls Try.prog 67 #[v] w (SubPost vs w) := by
  cases f with
  | odd => exact ⟨[], FosAt.nil, fun w => parts_odd v w h⟩
  | truth b => cases h; exact ⟨[], FosAt.nil, fun w => parts_Truth b w⟩
  | atom l rel r => obtain ⟨vl, vr, rfl, _⟩ := h; exact ⟨[], FosAt.nil, fun w => parts_Atom vl vr rel w⟩
  | not f => obtain ⟨vf, rfl, h1⟩ := h; exact ⟨[vf], FosAt.one h1, fun w => parts_Not vf w h1.one⟩
  | and l r => obtain ⟨vl, vr, rfl, h1, h2⟩ := h; exact ⟨[vl, vr], FosAt.two h1 h2, fun w => parts_And vl vr w h1.one h2.one⟩
  | or l r => obtain ⟨vl, vr, rfl, h1, h2⟩ := h; exact ⟨[vl, vr], FosAt.two h1 h2, fun w => parts_Or vl vr w h1.one h2.one⟩
  | implies l r => obtain ⟨vl, vr, rfl, h1, h2⟩ := h; exact ⟨[vl, vr], FosAt.two h1 h2, fun w => parts_Implies vl vr w h1.one h2.one⟩
  | iff l r => obtain ⟨vl, vr, rfl, h1, h2⟩ := h; exact ⟨[vl, vr], FosAt.two h1 h2, fun w => parts_Iff vl vr w h1.one h2.one⟩
  | quant all name f => obtain ⟨vf, rfl, h0, h1⟩ := h; exact ⟨[vf], FosAt.one h1, fun w => parts_Quant all name vf w h1.one⟩

theorem choose_lists {α β γ : Type} (g : β → γ) (e : α → List γ) : ∀ (ts : List α) (Q : Nat → List β → Prop), (∀ i k, ts[i]? = some k → ∃ l, l.map g = e k ∧ Q i l) →
    ∃ ls : List (List β), ls.length = ts.length ∧ ls.map (fun l => l.map g) = ts.map e ∧ ∀ i l, ls[i]? = some l → Q i l
  | [], Q, _ => ⟨[], rfl, rfl, fun i l h => by simp at h⟩
  | t :: ts, Q, h => by
    obtain ⟨l, hl, hq⟩ := h 0 t rfl
    obtain ⟨ls, h1, h2, h3⟩ := choose_lists g e ts (fun i => Q (i + 1)) (fun i k hk => h (i + 1) k (by simpa using hk))
    exact ⟨l :: ls, by simp [h1], by simp [hl, h2], fun i l' hi => by
      match i with
      | 0 => simp at hi; subst hi; exact hq
      | i + 1 => exact h3 i l' (by simpa using hi)⟩
theorem flat_take' {β : Type} {ls : List (List β)} {i : Nat} {l : List β} (h : ls[i]? = some l) : (ls.take (i + 1)).flatten = (ls.take i).flatten ++ l := by
  obtain ⟨hi, rfl⟩ := List.getElem?_eq_some_iff.1 h
  rw [List.take_succ_eq_append_getElem hi, List.flatten_append]; simp
theorem flat_rest {β : Type} {ls : List (List β)} {i : Nat} {l : List β} (h : ls[i]? = some l) : ls.flatten = (ls.take i).flatten ++ (l ++ (ls.drop (i + 1)).flatten) := by
  obtain ⟨hi, rfl⟩ := List.getElem?_eq_some_iff.1 h
  conv => lhs; rw [← List.take_append_drop i ls, List.flatten_append, List.drop_eq_getElem_cons hi, List.flatten_cons]

/-- whatever is cells is as it was, but for the blocks F -/
structure KeepC (F : Nat → Prop) (W W' : World) : Prop where
  size : W.heap.size ≤ W'.heap.size
  same : ∀ b o, W.heap[b]? = some o → o.isCells = true → ¬ F b → W'.heap[b]? = some o
theorem KeepC.refl (F : Nat → Prop) (W : World) : KeepC F W W := ⟨Nat.le_refl _, fun _ _ h _ _ => h⟩
theorem KeepC.trans {F : Nat → Prop} {A B C : World} (h : KeepC F A B) (k : KeepC F B C) : KeepC F A C := ⟨Nat.le_trans h.size k.size, fun b o h1 h2 h3 => k.same b o (h.same b o h1 h2 h3) h2 h3⟩
theorem KeepC.of_owns {F : Nat → Prop} {A B : World} (h : Owns A B F F) : KeepC F A B := ⟨h.size, fun b o h1 _ h3 => (h.same b (Array.getElem?_eq_some_iff.1 h1).1 h3).trans h1⟩
theorem KeepC.of_below {A B : World} (h : Below A.heap.size A B) (F : Nat → Prop) : KeepC F A B := KeepC.of_owns (Owns.of_below h F)
theorem KeepC.cell {F : Nat → Prop} {A B : World} (h : KeepC F A B) {p : Addr} {v : Value} (hc : A.cell? p = some v) (hF : ¬ F p.block) : B.cell? p = some v := by
  obtain ⟨cs, t, o, ho⟩ : ∃ cs t o, A.heap[p.block]? = some (.cells cs t o) := by
    unfold World.cell? at hc
    split at hc
    · rename_i h1; exact ⟨_, _, _, h1⟩
    · cases hc
  have h2 := h.same _ _ ho rfl hF
  rw [← hc]
  exact World.cell?_of_block (h2.trans ho.symm)
section
variable {w0 : World} {S : Nat → Prop}
def VPost (J Jx : List (It w0 S) → World → Prop) (F : Nat → Prop) (pre its : List (It w0 S)) (W : World) (e : Ending) (W' : World) : Prop :=
  (e = .returned (.bool true) ∧ J (pre ++ its) W' ∧ KeepC F W W') ∨ (e = .returned (.bool false) ∧ ∃ q, q <+: its ∧ Jx (pre ++ q) W')
/-- the rounds of a loop over the iterator -/
def Rounds (J Jx : List (It w0 S) → World → Prop) (F : Nat → Prop) (l N : Nat) : Prop :=
  ∀ (m : Nat) pre (x : It w0 S) W, J pre W → pre.length < N → YieldAt Fence.wide m Try.prog l #[.int .i64 x.1.d, x.1.v] W fun e W' =>
      (e = .returned (.bool true) ∧ J (pre ++ [x]) W' ∧ KeepC F W W') ∨ (e = .returned (.bool false) ∧ Jx (pre ++ [x]) W')
def VisC (v : Value) (d : Int) (its : List (It w0 S)) : Prop :=
  ∀ (J Jx : List (It w0 S) → World → Prop) (F : Nat → Prop) (l N : Nat), (∀ s W W', J s W → Below W.heap.size W W' → J s W') → (∀ b, F b → b < w0.heap.size) → Rounds J Jx F l N →
    ∀ (n : Nat) (pre : List (It w0 S)) (W : World), w0.heap.size ≤ W.heap.size → J pre W → pre.length + its.length ≤ N → CallsIn Fence.wide n Try.prog 70 #[v, .int .i64 d, .func (.yield l) #[] #[]] W (VPost J Jx F pre its W)
def VisOk (w0 : World) (S : Nat → Prop) (f : Fo) : Prop :=
  ∀ (v : Value) (d : Int), FoAt w0 S f v → SmF f → 0 ≤ d → d + hgt f ≤ 900000 → ∃ its : List (It w0 S), its.map It.pr = flatO f d ∧ VisC v d its

theorem row_at {w1 W2 wr : World} {F : Nat → Prop} {A : Option Addr} {n c : Nat} {vs : List Value} (hss : SS w1 (Fr W2 w1) 1 (.slice A n c) n vs) (hF : ∀ b, F b → b < W2.heap.size) (ho : KeepC F w1 wr) (i : Nat) (u : Value) (hu : vs[i]? = some u) (hn : n = vs.length) :
    ∃ b o, A = some ⟨b, o, none⟩ ∧ wr.cell? ⟨b, o + i, none⟩ = some u := by
  have hi := (List.getElem?_eq_some_iff.1 hu).1
  obtain ⟨b, o, rfl, hb, hx⟩ := hss.at_ (by omega)
  refine ⟨b, o, rfl, ?_⟩
  exact ho.cell (hx i u hu) (fun h => by have := hF b h; have := hb.1; simp at *; omega)
set_option maxRecDepth 100000 in
set_option maxHeartbeats 4000000 in
theorem visit_walk (J Jx : List (It w0 S) → World → Prop) (F : Nat → Prop) (l N : Nat) (hJ : ∀ s W W', J s W → Below W.heap.size W W' → J s W') (hF : ∀ b, F b → b < w0.heap.size)
    (hY : Rounds J Jx F l N) (f : Fo)
    (v : Value) (d d1 : Int) (hd1 : IntKind.i64.wrap (d + 1) = d1) (x : It w0 S) (hx : x.1.d = d ∧ x.1.v = v) (vs : List Value) (hone : ∀ u ∈ vs, u.oneCell' = true) (hparts : ∀ w, Calls Try.prog 67 #[v] w (SubPost vs w)) (ls : List (List (It w0 S))) (hlen : ls.length = vs.length) (hv64 : vs.length ≤ 2)
    (hk : ∀ (i : Nat) l', ls[i]? = some l' → ∃ u, vs[i]? = some u ∧ ∀ (n : Nat) (pre : List (It w0 S)) (W : World), w0.heap.size ≤ W.heap.size → J pre W → pre.length + l'.length ≤ N → CallsIn Fence.wide n Try.prog 70 #[u, .int .i64 d1, .func (.yield l) #[] #[]] W (VPost J Jx F pre l' W))
    (n : Nat) (pre : List (It w0 S)) (W : World) (hO : w0.heap.size ≤ W.heap.size) (hJ0 : J pre W) (hN : pre.length + (x :: ls.flatten).length ≤ N) :
    CallsIn Fence.wide n Try.prog 70 #[v, .int .i64 d, .func (.yield l) #[] #[]] W (VPost J Jx F pre (x :: ls.flatten) W) := by
  obtain ⟨rfl, rfl⟩ := hx
  obtain ⟨fn, tmps, assign, body, hy, hR⟩ := hY (n - 1) pre x W hJ0 (by simp at hN; omega)
  obtain ⟨N0, hN0⟩ : ∃ N0, N0 = vs.length := ⟨_, rfl⟩
  have HJ := Lib.hid hJ
  have HY := Lib.hid hY
  have HP := Lib.hid hparts
  have HN := Lib.hid hN
  have HN0 := Lib.hid hN0
  have HLEN := Lib.hid hlen
  have HK := Lib.hid hk
  have HO := Lib.hid hO
  have HF := Lib.hid hF
  have hN64 : N0 ≤ 2 := by omega
  have hdd : ∀ k : Nat, (Fence.wide.depth.isSome = true → 1 ≤ k) := fun k h => by cases h
  clear hJ hY hparts hN hN0 hlen hk hO hJ0 hF hv64 hone
  refine callsIn_of_wp Try.func70 rfl trivial ?_ rfl
  simp only [Try.ntmps70, List.size_toArray, List.length_cons, List.length_nil, Nat.reduceAdd, Nat.reduceSub, Array.replicate_succ, Array.replicate_zero, List.push_toArray, List.append_toArray, List.nil_append, List.cons_append]
  gi_wp2_with (first
    | ((try refine ⟨hdd _, ?_⟩); refine hR.mono ?_; clear hR; rintro e W2 (⟨rfl, hJ2, hb2⟩ | ⟨rfl, hx2⟩))
    | (refine ⟨trivial, hdd _, ?_⟩; gi_at_call 67; refine (callsIn_wide.2 (HP.out _)).mono ?_; intro e w1 hp; obtain ⟨A, c, he, hss, hb1⟩ := hp; rw [← HN0.out] at he hss; subst he; have HSS := Lib.hid hss; have HB1 := Lib.hid hb1; clear hss hb1))
  · have HFW := Lib.hid (show ∀ b, F b → b < W2.heap.size from fun b hb => Nat.lt_of_lt_of_le (HF.out b hb) (Nat.le_trans HO.out hb2.size))
    have HO2 := Lib.hid (Nat.le_trans HO.out hb2.size)
    have HOW := Lib.hid hb2
    have HJ1 := Lib.hid (HJ.out _ _ _ hJ2 HB1.out)
    clear hb2 hJ2
    gi_loopw [17] (fun a_ wr => ∃ i : Nat, i ≤ N0 ∧ a_ = .int .i64 i ∧ Hid (J (pre ++ [x] ++ (ls.take i).flatten) wr) ∧ Hid (KeepC F w1 wr)) (fun a_ _ => N0 - (intOf a_).toNat)
    case atStart => exact ⟨0, Nat.zero_le _, rfl, Lib.hid (by simpa using HJ1.out), Lib.hid (KeepC.refl _ _)⟩
    case round =>
      obtain ⟨i, hi, rfl, hj, ho⟩ := hrel
      by_cases hlt : i < N0
      · obtain ⟨l', hl'⟩ : ∃ l', ls[i]? = some l' := ⟨_, List.getElem?_eq_getElem (by rw [HLEN.out, ← HN0.out]; exact hlt)⟩
        obtain ⟨u, hu, hC⟩ := HK.out i l' hl'
        obtain ⟨b, o, rfl, hcell⟩ := row_at HSS.out HFW.out ho.out i u hu HN0.out
        have HC := Lib.hid (hC (n - 1) (pre ++ [x] ++ (ls.take i).flatten) wr (Nat.le_trans HO2.out (Nat.le_trans HB1.out.size ho.out.size)) hj.out (by
          have h1 := HN.out
          rw [flat_rest hl'] at h1
          simp at h1 ⊢
          omega))
        have HL' := Lib.hid hl'
        clear hC hu hl'
        gi_wp2_with (refine ⟨trivial, hdd _, ?_⟩; gi_at_call 70; refine HC.out.mono ?_; rintro e w2 (⟨rfl, hj2, ho2⟩ | ⟨rfl, q, hq, hx2⟩))
        · go_roundw
          case rel => exact ⟨i + 1, by omega, by go_num, Lib.hid (by rw [flat_take' HL'.out]; simpa using hj2), Lib.hid (ho.out.trans ho2)⟩
          case measure => simp [intOf]; omega
        · go_ret
          obtain ⟨r, hr⟩ := hq
          refine .inr ⟨rfl, x :: ((ls.take i).flatten ++ q), ⟨r ++ (ls.drop (i + 1)).flatten, ?_⟩, by simpa using hx2⟩
          rw [flat_rest HL'.out, ← hr]; simp
      · have hnum : i = N0 := by omega
        gi_wp2
        go_ret
        have hall : ls.take i = ls := List.take_of_length_le (by rw [HLEN.out, ← HN0.out]; omega)
        refine .inl ⟨rfl, ?_, (HOW.out.trans (KeepC.of_below HB1.out F)).trans ho.out⟩
        have h := hj.out
        rw [hall] at h
        simpa using h
  · go_ret
    exact .inr ⟨rfl, [x], ⟨ls.flatten, by simp⟩, hx2⟩
/-- every formula is visited -/
theorem visit_any (w0 : World) (S : Nat → Prop) : ∀ f, VisOk w0 S f := by
  refine Fo.ind fun f ih => ?_
  intro v d hf hs hd hh
  obtain ⟨vs, hvs, hparts⟩ := parts_all f v S w0 hf
  obtain ⟨ls, h1, h2, h3⟩ := choose_lists It.pr (fun k => flatO k (d + 1)) (subF f)
    (fun i l' => ∃ u, vs[i]? = some u ∧ VisC u (d + 1) l')
    (fun i k hk => by
      obtain ⟨u, hu, hk2⟩ := hvs.2 i k hk
      have hm := List.mem_of_getElem? hk
      have := hgt_sub f k hm
      obtain ⟨its, e, hc⟩ := ih k hm u (d + 1) hk2 (smf_sub f k hs hm) (by omega) (by omega)
      exact ⟨its, e, u, hu, hc⟩)
  have hle : vs.length ≤ 2 := by rw [hvs.1]; cases f <;> simp [subF]
  have hw : IntKind.i64.wrap (d + 1) = d + 1 := IntWalk.i64_in _ (by omega)
  refine ⟨⟨⟨d, f, v⟩, hf, hs⟩ :: ls.flatten, ?_, ?_⟩
  · rw [flatO_sub, ← h2, List.map_cons, List.map_flatten]; rfl
  · intro J Jx F l N hJ hF hY n pre W hO hj hN
    exact visit_walk J Jx F l N hJ hF hY f v d (d + 1) hw ⟨⟨d, f, v⟩, hf, hs⟩ ⟨rfl, rfl⟩ vs (fun u hu => by
      obtain ⟨i, hi⟩ := List.getElem?_of_mem hu
      have := (List.getElem?_eq_some_iff.1 hi).1
      obtain ⟨u', hu', hk⟩ := hvs.2 i _ (List.getElem?_eq_getElem (by rw [← hvs.1]; exact this))
      rw [hi] at hu'; cases hu'
      exact hk.one) hparts ls (by rw [h1, hvs.1]) hle (fun i l' hi => by
        obtain ⟨u, hu, hc⟩ := h3 i l' hi
        exact ⟨u, hu, fun n pre W h1 h2 h3 => hc J Jx F l N hJ hF hY n pre W h1 h2 h3⟩) n pre W hO hj hN
end
end Vs
end Go.Proofs.Ytjbgdaojhdobkaa
