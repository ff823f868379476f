/-
  Small laws for the statements of chapter 34.
-/
import Derived.Test.YtkjbfomokdjbnaaDoorFmW
import Derived.Test.YtkjbfomokdjbnaaDoorFmL
import Derived.Test.YtkjbfomokdjbnaaDoorFmT
import Derived.Test.YtkjbfomokdjbnaaDoorFmG
import Derived.Deep.AppendLies
import Derived.Deep.QuietTactic
import Derived.BigQuiet
import Derived.Lib.SlicesS
import Derived.Test.YtkjbfomokdjbnaaDoorMem
import Derived.Deep.RegionLaw
namespace Go.Proofs.YtkjbfomokdjbnaaDoor
open Go.RowKit
set_option linter.unusedSimpArgs false
set_option linter.unusedVariables false
namespace Fm
theorem sm_of_flat : ∀ (t : Tr) (d : Int), (∀ p ∈ flatF t d, shortT p.1 = true) → Sm t := by
  refine Tr.ind fun h ks ih => ?_
  intro d hp
  have h0 := hp (.mk h ks, d) (by unfold flatF; simp)
  have hL : ∀ (l : List Tr), (∀ k ∈ l, k ∈ ks) → (∀ p ∈ flatL l (d + 1), shortT p.1 = true) → SmL l := by
    intro l
    induction l with
    | nil => intro _ _; unfold SmL; trivial
    | cons a l il =>
      intro hm hq
      unfold flatL at hq
      unfold SmL
      exact ⟨ih a (hm a (by simp)) (d + 1) (fun p hp => hq p (List.mem_append.2 (.inl hp))), il (fun k hk => hm k (by simp [hk])) (fun p hp => hq p (List.mem_append.2 (.inr hp)))⟩
  unfold Sm
  unfold shortT at h0
  simp only [Bool.and_eq_true, decide_eq_true_eq] at h0
  exact ⟨h0.1, h0.2, hL ks (fun _ h => h) (fun p hp' => hp p (by unfold flatF; simp [hp']))⟩
theorem fewB_sm {t : Tr} {n : Int} (h : fewB t n = true) : Sm t := by
  unfold fewB at h
  simp only [Bool.and_eq_true, List.all_eq_true] at h
  exact sm_of_flat t 0 h.2
theorem TreePost.cells {T : Tr} {w w' : World} {e : Ending} (h : TreePost T w e w') : ∃ A1 n1 c1 A2 n2 c2 k neg nm ex rl tr al, e = .returned (.agg #[.int .i64 k, .bool neg, .slice A1 n1 c1, .string nm, .int .i64 ex, .int .i64 rl, .bool tr, .bool al, .slice A2 n2 c2]) ∧ TreeAt w' (Fr w w') T [.int .i64 k, .bool neg, .slice A1 n1 c1, .string nm, .int .i64 ex, .int .i64 rl, .bool tr, .bool al, .slice A2 n2 c2] ∧ Below w.heap.size w w' := by
  obtain ⟨A1, n1, c1, A2, n2, c2, rfl, h1, h2⟩ := h
  exact ⟨A1, n1, c1, A2, n2, c2, _, _, _, _, _, _, _, rfl, h1, h2⟩
theorem TreeAt.nine {w : World} {S : Nat → Prop} {T : Tr} {cs : List Value} (h : TreeAt w S T cs) : ∃ A1 n1 c1 A2 n2 c2 k neg nm ex rl tr al, cs = [.int .i64 k, .bool neg, .slice A1 n1 c1, .string nm, .int .i64 ex, .int .i64 rl, .bool tr, .bool al, .slice A2 n2 c2] := by
  obtain ⟨A1, n1, c1, A2, n, c, xs, rfl, _⟩ := h.named
  exact ⟨A1, n1, c1, A2, n, c, _, _, _, _, _, _, _, rfl⟩
end Fm
end Go.Proofs.YtkjbfomokdjbnaaDoor

/-
  formula.Free: the names that occur free.
-/
namespace Go.Proofs.YtkjbfomokdjbnaaDoor
open Go.RowKit
set_option linter.unusedSimpArgs false
set_option linter.unusedVariables false
namespace Fm
attribute [local go_sem] run_store

abbrev tStrs : TypeId := 65
/-- what the closure of Free holds: the blocks from B on -/
def FreeJ (B : Nat) (L : List ByteArray) (F : Nat → Prop) (W : World) : Prop :=
  ∃ v, W.heap[B + 3]? = some (.cells #[.map (some (B + 1))] tMI (0, 0)) ∧ W.heap[B + 4]? = some (.cells #[.map (some (B + 2))] tMB (0, 0)) ∧ W.heap[B]? = some (.cells #[v] tStrs (0, 0)) ∧
    W.ownsRow (B + 5) tStr 1 v L.length (L.map Value.string) ∧ MapB W (B + 2) L.length L ∧ F = fun b => b = B ∨ b = B + 2 ∨ b = B + 3 ∨ b = B + 4 ∨ v.ownBlock = some b
theorem blk_lt {w : World} {b : Nat} {o : Obj} (h : w.heap[b]? = some o) : b < w.heap.size := (Array.getElem?_eq_some_iff.1 h).1
theorem ownsRow_keep {w w' : World} {base size n : Nat} {e : TypeId} {v : Value} {xs : List Value} (h : w.ownsRow base e size v n xs) (hb : ∀ b, v.ownBlock = some b → w'.heap[b]? = w.heap[b]?) : w'.ownsRow base e size v n xs := by
  refine ⟨h.1, ?_⟩
  rcases h.2 with h0 | ⟨g, cap, cur, hv, hb1, hg, r⟩
  · exact .inl h0
  · exact .inr ⟨g, cap, cur, hv, hb1, (hb g (by rw [hv]; rfl)).trans hg, r⟩
theorem FreeJ.lt {B : Nat} {L : List ByteArray} {F : Nat → Prop} {W : World} (h : FreeJ B L F W) : ∀ b, F b → b < W.heap.size := by
  obtain ⟨v, h1, h2, h3, h4, h5, rfl⟩ := h
  intro b hb
  rcases hb with rfl | rfl | rfl | rfl | hb
  · exact blk_lt h3
  · exact h5.lt
  · exact blk_lt h1
  · exact blk_lt h2
  · exact (h4.lt b hb).2
theorem FreeJ.keep {B : Nat} {L : List ByteArray} {F : Nat → Prop} {W W' : World} (h : FreeJ B L F W) (hk : ∀ b, F b → W'.heap[b]? = W.heap[b]?) : FreeJ B L F W' := by
  obtain ⟨v, h1, h2, h3, h4, h5, rfl⟩ := h
  exact ⟨v, (hk _ (.inr (.inr (.inl rfl)))).trans h1, (hk _ (.inr (.inr (.inr (.inl rfl))))).trans h2, (hk _ (.inl rfl)).trans h3, ownsRow_keep h4 (fun b hb => hk b (.inr (.inr (.inr (.inr hb))))), h5.keep (hk _ (.inr (.inl rfl))), rfl⟩
end Fm
end Go.Proofs.YtkjbfomokdjbnaaDoor

/-
  right, texts, formula.Bound.
-/
namespace Go.Proofs.YtkjbfomokdjbnaaDoor
open Go.RowKit
set_option linter.unusedSimpArgs false
set_option linter.unusedVariables false
namespace Fm
attribute [local go_sem] run_store taQuant_yes taQuant_no taQuant_nil

/-- a slice of texts that reads as these -/
def StrsAt (w : World) (S : Nat → Prop) (v : Value) (l : List ByteArray) : Prop := SS w S 1 v l.length (l.map Value.string) ∧ l.length ≤ 1000000
theorem StrsAt.keep {w w' : World} {S : Nat → Prop} {v : Value} {l : List ByteArray} (h : StrsAt w S v l) (hk : ∀ p : Addr, S p.block → w'.cell? p = w.cell? p) : StrsAt w' S v l := ⟨h.1.keep hk, h.2⟩
theorem StrsAt.more {w : World} {S S' : Nat → Prop} {v : Value} {l : List ByteArray} (h : StrsAt w S v l) (hS : ∀ b, S b → S' b) : StrsAt w S' v l := ⟨h.1.more hS, h.2⟩
theorem StrsAt.below {w w' : World} {S : Nat → Prop} {B : Nat} {v : Value} {l : List ByteArray} (h : StrsAt w S v l) (hS : ∀ b, S b → b < B) (hb : Below B w w') : StrsAt w' S v l := h.keep (fun _ hp => hb.cell (hS _ hp))
theorem StrsAt.of_own {w : World} {base : Nat} {v : Value} {l : List ByteArray} (h : w.ownsRow base tStr 1 v l.length (l.map Value.string)) (hl : l.length ≤ 1000000) : StrsAt w (fun b => base ≤ b ∧ b < w.heap.size) v l := ⟨SS.of_own h, hl⟩
theorem StrsAt.form {w : World} {S : Nat → Prop} {v : Value} {l : List ByteArray} (h : StrsAt w S v l) : ∃ A c, v = .slice A l.length c := h.1.form
theorem StrsAt.at_ {w : World} {S : Nat → Prop} {A : Option Addr} {n c : Nat} {l : List ByteArray} (h : StrsAt w S (.slice A n c) l) (hn : n = l.length) (h0 : 0 < n) :
    ∃ b o, A = some ⟨b, o, none⟩ ∧ S b ∧ ∀ i x, l[i]? = some x → w.cell? ⟨b, o + i, none⟩ = some (.string x) := by
  subst hn
  obtain ⟨b, o, rfl, hb, hc⟩ := h.1.at_ h0
  exact ⟨b, o, rfl, hb, fun i x hx => hc i _ (by rw [List.getElem?_map, hx]; rfl)⟩
/-! ### the quantifiers' names -/
end Fm
end Go.Proofs.YtkjbfomokdjbnaaDoor

/-
  The reference's Has, Free.
-/
namespace Go.Proofs.YtkjbfomokdjbnaaDoor
open Go.RowKit
set_option linter.unusedSimpArgs false
set_option linter.unusedVariables false
namespace Fm
attribute [local go_sem] run_store

set_option maxRecDepth 100000 in
set_option maxHeartbeats 2000000 in
theorem has_any (l : List ByteArray) (v : Value) (s : ByteArray) (S : Nat → Prop) (w : World) (hv : StrsAt w S v l) (r : Bool) (hr : r = true ↔ s ∈ l) :
    Calls Tryd.prog 54 #[v, .string s] w fun e w' => e = .returned (.bool r) ∧ w = w' := by
  obtain ⟨A1, c1, rfl⟩ := hv.form
  obtain ⟨n, hn⟩ : ∃ n, n = l.length := ⟨_, rfl⟩
  rw [← hn] at hv ⊢
  have hl1 : n ≤ 1000000 := by rw [hn]; exact hv.2
  have HV := Lib.hid hv
  have HN := Lib.hid hn
  have HR := Lib.hid hr
  clear hv hn hr
  go_enter Tryd.func54, Tryd.ntmps54
  go_wp2
  go_loop [8] (fun a_ => ∃ (i : Nat), i ≤ n ∧ a_ = .int .i64 i ∧ Hid (r = true ↔ s ∈ l.drop i)) (fun a_ => n - (intOf a_).toNat)
  case atStart => exact ⟨0, Nat.zero_le _, rfl, Lib.hid (by simpa using HR.out)⟩
  case round =>
    obtain ⟨i, hi, rfl, hrel⟩ := hrel
    by_cases hlt : i < n
    · obtain ⟨b, o, rfl, hb, hc⟩ := HV.out.at_ HN.out (by omega)
      obtain ⟨x, hx⟩ : ∃ x, l[i]? = some x := ⟨_, List.getElem?_eq_getElem (by have := HN.out; omega)⟩
      have g1 := hc i x hx
      have hstep := hrel.out
      rw [drop_at hx] at hstep
      have HST := Lib.hid hstep
      have hi1 : (0 : Int) ≤ i ∧ (i : Int) < n := by omega
      clear hc hx hstep hb
      by_cases hse : x = s
      · subst hse
        have HT := Lib.hid (show r = true from HST.out.2 (by simp))
        go_wp2
        go_ret
        exact ⟨by rw [HT.out]; rfl, rfl⟩
      · have hb0 : (x.toList == s.toList) = false := (Lib.bytes_beq_false_iff x s).2 hse
        have HST2 := Lib.hid (show r = true ↔ s ∈ l.drop (i + 1) by rw [HST.out, List.mem_cons]; exact ⟨fun h => h.resolve_left (fun e => hse e.symm), .inr⟩)
        clear hse
        go_wp2
        go_round
        case rel => exact ⟨i + 1, by omega, by go_num, HST2⟩
        case measure => simp [intOf]; omega
    · have HE := Lib.hid (show r = false by
        cases hh : r with
        | false => rfl
        | true => (have h := hrel.out.1 hh; rw [List.drop_eq_nil_of_le (by have := HN.out; omega)] at h; cases h))
      go_wp2
      go_ret
      exact ⟨by rw [HE.out]; rfl, rfl⟩


/-! fr_marker -/

end Fm
end Go.Proofs.YtkjbfomokdjbnaaDoor

/-
  The reference's Parts and Bound.
-/
namespace Go.Proofs.YtkjbfomokdjbnaaDoor
open Go.RowKit
set_option linter.unusedSimpArgs false
set_option linter.unusedVariables false
namespace Fm
attribute [local go_sem] run_store

/-- element i of a row of trees, its cells in a later world -/
theorem row_tree {w1 wr : World} {B g n c : Nat} {S : Nat → Prop} {ys : List Value} {ts : List Tr} (ho : w1.ownsRow B TT 9 (.slice (some ⟨g, 0, none⟩) n c) n ys) (ht : TrsC w1 S ts ys) (hn : n = ts.length) (hb : Below w1.heap.size w1 wr) (i : Nat) (hi : i < n) :
    ∃ td A1 n1 c1 A2 n2 c2 k neg nm ex rl tr al, ts[i]? = some td ∧ TreeAt w1 S td [.int .i64 k, .bool neg, .slice A1 n1 c1, .string nm, .int .i64 ex, .int .i64 rl, .bool tr, .bool al, .slice A2 n2 c2] ∧ td.h.k = k ∧ td.h.name = nm ∧
      wr.cell? ⟨g, i * 9, none⟩ = some (.int .i64 k) ∧ wr.cell? ⟨g, i * 9 + 1, none⟩ = some (.bool neg) ∧ wr.cell? ⟨g, i * 9 + 2, none⟩ = some (.slice A1 n1 c1) ∧
      wr.cell? ⟨g, i * 9 + 3, none⟩ = some (.string nm) ∧ wr.cell? ⟨g, i * 9 + 4, none⟩ = some (.int .i64 ex) ∧ wr.cell? ⟨g, i * 9 + 5, none⟩ = some (.int .i64 rl) ∧
      wr.cell? ⟨g, i * 9 + 6, none⟩ = some (.bool tr) ∧ wr.cell? ⟨g, i * 9 + 7, none⟩ = some (.bool al) ∧ wr.cell? ⟨g, i * 9 + 8, none⟩ = some (.slice A2 n2 c2) := by
  obtain ⟨cs, h1, h2⟩ := ht.get i (by omega)
  obtain ⟨va, vk, ys', hcs, _⟩ := h1.cells
  obtain ⟨A1, n1, c1, A2, n2, c2, k, neg, nm, ex, rl, tr, al, rfl⟩ := h1.nine
  simp only [hdC, List.cons.injEq, and_true] at hcs
  have hg : g < w1.heap.size := (ho.lt g rfl).2
  have hc : ∀ j u, [Value.int .i64 k, .bool neg, .slice A1 n1 c1, .string nm, .int .i64 ex, .int .i64 rl, .bool tr, .bool al, .slice A2 n2 c2][j]? = some u → wr.cell? ⟨g, i * 9 + j, none⟩ = some u := fun j u hj => by
    have h3 := ho.cells (g := g) rfl _ _ (h2 j u hj)
    have e : (⟨g, 0, none⟩ : Addr).add (i * 9 + j) = ⟨g, i * 9 + j, none⟩ := by
      unfold Addr.add; split
      · rename_i h5; simp [h5]
      · simp
    rw [e] at h3
    exact (hb.cell (p := ⟨g, i * 9 + j, none⟩) hg).trans h3
  refine ⟨_, A1, n1, c1, A2, n2, c2, k, neg, nm, ex, rl, tr, al, List.getElem?_eq_getElem (by omega), h1, ?_, ?_, hc 0 _ rfl, hc 1 _ rfl, hc 2 _ rfl, hc 3 _ rfl, hc 4 _ rfl, hc 5 _ rfl, hc 6 _ rfl, hc 7 _ rfl, hc 8 _ rfl⟩
  · have := hcs.1; injection this with _ h; exact h.symm
  · have := hcs.2.2.2.1; injection this with h; exact h.symm
end Fm
end Go.Proofs.YtkjbfomokdjbnaaDoor
