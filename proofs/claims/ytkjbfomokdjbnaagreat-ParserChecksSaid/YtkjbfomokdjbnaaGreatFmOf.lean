/-
  formula.Of: what it accepts, and the formula that it gives.
-/
import Derived.Test.YtkjbfomokdjbnaaGreatFmO
namespace Go.Proofs.YtkjbfomokdjbnaaGreat
open Go.RowKit
set_option linter.unusedSimpArgs false
set_option linter.unusedVariables false
namespace Fm

def kidsF (k : Int) : Option Nat := if k = 8 then some 0 else if k = 10 ∨ k = 15 then some 1 else if k = 9 ∨ k = 11 ∨ k = 12 ∨ k = 13 ∨ k = 14 then some 2 else none
def mkF (h : Hd) (ps : List Fo) : Fo :=
  if h.k = 8 then .truth h.truth else if h.k = 10 then .not (ps.getD 0 .odd) else if h.k = 15 then .quant h.all h.name (ps.getD 0 .odd)
  else if h.k = 11 then .and (ps.getD 0 .odd) (ps.getD 1 .odd) else if h.k = 12 then .or (ps.getD 0 .odd) (ps.getD 1 .odd) else if h.k = 13 then .implies (ps.getD 0 .odd) (ps.getD 1 .odd) else .iff (ps.getD 0 .odd) (ps.getD 1 .odd)
def mkA (h : Hd) (ps : List Tm) : Fo := .atom (ps.getD 0 .odd) h.rel (ps.getD 1 .odd)
mutual
def ofF : Tr → Option Fo
  | .mk h ks => if kidsF h.k = some ks.length ∧ ¬ (h.k = 9 ∧ (h.rel < 1 ∨ 6 < h.rel)) then (if h.k = 9 then (ofTs ks).map (mkA h) else (ofFs ks).map (mkF h)) else none
def ofFs : List Tr → Option (List Fo)
  | [] => some []
  | k :: ks => match ofF k with
    | none => none
    | some p => (ofFs ks).map (p :: ·)
end
theorem mkF_ne (h : Hd) (ps : List Fo) : mkF h ps ≠ .odd := by
  unfold mkF
  repeat' split
  all_goals (intro e; cases e)
theorem ofF_ne {t : Tr} {f : Fo} (h : ofF t = some f) : f ≠ .odd := by
  cases t with
  | mk hd ks =>
    unfold ofF at h
    split at h
    · split at h
      · cases hk : ofTs ks with
        | none => rw [hk] at h; cases h
        | some ps =>
          rw [hk] at h
          simp only [Option.map_some, Option.some.injEq] at h
          rw [← h]; intro e; cases e
      · cases hk : ofFs ks with
        | none => rw [hk] at h; cases h
        | some ps =>
          rw [hk] at h
          simp only [Option.map_some, Option.some.injEq] at h
          rw [← h]; exact mkF_ne _ _
    · cases h
def OfPost (t : Tr) (w : World) (e : Ending) (w' : World) : Prop :=
  match ofF t with
  | none => e = .returned (.tuple #[.nilIface, .int .i64 9]) ∧ Below w.heap.size w w'
  | some f => ∃ v, e = .returned (.tuple #[v, .int .i64 0]) ∧ FoAt w' (Fr w w') f v ∧ Below w.heap.size w w'
theorem OfPost.no {t : Tr} {w w' : World} {e : Ending} (h : OfPost t w e w') (hn : ofF t = none) : e = .returned (.tuple #[.nilIface, .int .i64 9]) ∧ Below w.heap.size w w' := by
  unfold OfPost at h; rw [hn] at h; exact h
theorem OfPost.yes {t : Tr} {w w' : World} {e : Ending} (h : OfPost t w e w') {f : Fo} (hn : ofF t = some f) : ∃ v, e = .returned (.tuple #[v, .int .i64 0]) ∧ FoAt w' (Fr w w') f v ∧ Below w.heap.size w w' := by
  unfold OfPost at h; rw [hn] at h; exact h
theorem OfPost.mkNo {t : Tr} {w w' : World} (hn : ofF t = none) (hb : Below w.heap.size w w') : OfPost t w (.returned (.tuple #[.nilIface, .int .i64 9])) w' := by
  unfold OfPost; rw [hn]; exact ⟨rfl, hb⟩
theorem OfPost.mkYes {t : Tr} {w w' : World} {f : Fo} {v : Value} (hn : ofF t = some f) (hv : FoAt w' (Fr w w') f v) (hb : Below w.heap.size w w') : OfPost t w (.returned (.tuple #[v, .int .i64 0])) w' := by
  unfold OfPost; rw [hn]; exact ⟨v, rfl, hv, hb⟩

theorem nine_at {w : World} {b o : Nat} {x0 x1 x2 x3 x4 x5 x6 x7 x8 : Value} (h : ∀ j u, [x0, x1, x2, x3, x4, x5, x6, x7, x8][j]? = some u → w.cell? ⟨b, o + j, none⟩ = some u) :
    w.cell? ⟨b, o, none⟩ = some x0 ∧ w.cell? ⟨b, o + 1, none⟩ = some x1 ∧ w.cell? ⟨b, o + 2, none⟩ = some x2 ∧ w.cell? ⟨b, o + 3, none⟩ = some x3 ∧ w.cell? ⟨b, o + 4, none⟩ = some x4 ∧ w.cell? ⟨b, o + 5, none⟩ = some x5 ∧ w.cell? ⟨b, o + 6, none⟩ = some x6 ∧ w.cell? ⟨b, o + 7, none⟩ = some x7 ∧ w.cell? ⟨b, o + 8, none⟩ = some x8 :=
  ⟨h 0 _ rfl, h 1 _ rfl, h 2 _ rfl, h 3 _ rfl, h 4 _ rfl, h 5 _ rfl, h 6 _ rfl, h 7 _ rfl, h 8 _ rfl⟩
theorem nine_list {cs : List Value} (h : cs.length = 9) : ∃ x0 x1 x2 x3 x4 x5 x6 x7 x8, cs = [x0, x1, x2, x3, x4, x5, x6, x7, x8] := by
  match cs, h with
  | [x0, x1, x2, x3, x4, x5, x6, x7, x8], _ => exact ⟨_, _, _, _, _, _, _, _, _, rfl⟩
theorem two_at {w : World} {S : Nat → Prop} {ks : List Tr} {A : Option Addr} {c : Nat} {xs : List Value} (hs : SS w S 9 (.slice A 2 c) 2 xs) (ht : TrsC w S ks xs) (hn : 2 = ks.length) :
    ∃ a d b o x0 x1 x2 x3 x4 x5 x6 x7 x8 y0 y1 y2 y3 y4 y5 y6 y7 y8, ks = [a, d] ∧ A = some ⟨b, o, none⟩ ∧ S b ∧ TreeAt w S a [x0, x1, x2, x3, x4, x5, x6, x7, x8] ∧ TreeAt w S d [y0, y1, y2, y3, y4, y5, y6, y7, y8] ∧
      (∀ w' : World, (∀ p : Addr, S p.block → w'.cell? p = w.cell? p) → ∀ j u, [x0, x1, x2, x3, x4, x5, x6, x7, x8][j]? = some u → w'.cell? ⟨b, o + j, none⟩ = some u) ∧
      (∀ w' : World, (∀ p : Addr, S p.block → w'.cell? p = w.cell? p) → ∀ j u, [y0, y1, y2, y3, y4, y5, y6, y7, y8][j]? = some u → w'.cell? ⟨b, o + 9 + j, none⟩ = some u) := by
  match ks, hn with
  | [a, d], _ =>
    obtain ⟨b, o, rfl, hb, hx⟩ := hs.at_ (by omega)
    unfold TrsC at ht
    obtain ⟨cs, rest, rfl, h1, ht⟩ := ht
    unfold TrsC at ht
    obtain ⟨ds, rest, rfl, h2, ht⟩ := ht
    unfold TrsC at ht
    subst ht
    have l1 := h1.len
    have l2 := h2.len
    obtain ⟨x0, x1, x2, x3, x4, x5, x6, x7, x8, rfl⟩ := nine_list l1
    obtain ⟨y0, y1, y2, y3, y4, y5, y6, y7, y8, rfl⟩ := nine_list l2
    refine ⟨a, d, b, o, _, _, _, _, _, _, _, _, _, _, _, _, _, _, _, _, _, _, rfl, rfl, hb, h1, h2, fun w' hw j u hj => (hw ⟨b, o + j, none⟩ hb).trans (hx j u ?_), fun w' hw j u hj => ?_⟩
    · rw [List.getElem?_append_left (by have := (List.getElem?_eq_some_iff.1 hj).1; simpa using this)]; exact hj
    · have h3 := hx (9 + j) u (by
        rw [List.getElem?_append_right (by simp)]
        rw [show 9 + j - [x0, x1, x2, x3, x4, x5, x6, x7, x8].length = j by simp]
        rw [List.getElem?_append_left (by have := (List.getElem?_eq_some_iff.1 hj).1; simpa using this)]; exact hj)
      rw [show o + 9 + j = o + (9 + j) by omega]
      exact (hw ⟨b, o + (9 + j), none⟩ hb).trans h3
theorem one_at {w : World} {S : Nat → Prop} {ks : List Tr} {A : Option Addr} {c : Nat} {xs : List Value} (hs : SS w S 9 (.slice A 1 c) 1 xs) (ht : TrsC w S ks xs) (hn : 1 = ks.length) :
    ∃ a b o x0 x1 x2 x3 x4 x5 x6 x7 x8, ks = [a] ∧ A = some ⟨b, o, none⟩ ∧ S b ∧ TreeAt w S a [x0, x1, x2, x3, x4, x5, x6, x7, x8] ∧
      (∀ w' : World, (∀ p : Addr, S p.block → w'.cell? p = w.cell? p) → ∀ j u, [x0, x1, x2, x3, x4, x5, x6, x7, x8][j]? = some u → w'.cell? ⟨b, o + j, none⟩ = some u) := by
  match ks, hn with
  | [a], _ =>
    obtain ⟨b, o, rfl, hb, hx⟩ := hs.at_ (by omega)
    unfold TrsC at ht
    obtain ⟨cs, rest, rfl, h1, ht⟩ := ht
    unfold TrsC at ht
    subst ht
    have l1 := h1.len
    obtain ⟨x0, x1, x2, x3, x4, x5, x6, x7, x8, rfl⟩ := nine_list l1
    refine ⟨a, b, o, _, _, _, _, _, _, _, _, _, rfl, rfl, hb, h1, fun w' hw j u hj => (hw ⟨b, o + j, none⟩ hb).trans (hx j u ?_)⟩
    simpa using hj

theorem OfPost.bad {t : Tr} {w : World} {f : FuncId} {args : Array Value} (hn : ofF t = none) (h : Calls Tryz.prog f args w fun e w' => e = .returned (.tuple #[.nilIface, .int .i64 9]) ∧ Below w.heap.size w w') : Calls Tryz.prog f args w (OfPost t w) :=
  h.mono fun e w' hq => by obtain ⟨rfl, hb⟩ := hq; exact OfPost.mkNo hn hb
theorem ofF_len {h : Hd} {ks : List Tr} (hk : kidsF h.k ≠ some ks.length) : ofF (.mk h ks) = none := by unfold ofF; rw [if_neg (fun hh => hk hh.1)]


end Fm
end Go.Proofs.YtkjbfomokdjbnaaGreat
