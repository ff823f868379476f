/-
  formula.Of: what it accepts, and the formula that it gives.
-/
import Derived.Test.YtkjbfomokdjbnaaDoorFmO
namespace Go.Proofs.YtkjbfomokdjbnaaDoor
open Go.RowKit
set_option linter.unusedSimpArgs false
set_option linter.unusedVariables false
namespace Fm

def kidsF (k : Int) : Option Nat := if k = 8 then some 0 else if k = 10 ∨ k = 15 then some 1 else if k = 9 ∨ k = 11 ∨ k = 12 ∨ k = 13 ∨ k = 14 then some 2 else none
def mkF (h : Hd) (ps : List Fo) : Fo :=
  if h.k = 8 then .truth h.truth else if h.k = 10 then .not (ps.getD 0 .odd) else if h.k = 15 then .quant h.all h.name (ps.getD 0 .odd)
  else if h.k = 11 then .and (ps.getD 0 .odd) (ps.getD 1 .odd) else if h.k = 12 then .or (ps.getD 0 .odd) (ps.getD 1 .odd) else if h.k = 13 then .implies (ps.getD 0 .odd) (ps.getD 1 .odd) else .iff (ps.getD 0 .odd) (ps.getD 1 .odd)
def mkA (h : Hd) (ps : List Tm) : Fo := .atom (ps.getD 0 .odd) h.rel (ps.getD 1 .odd)
mutual
def ofF : Tr → Option Fo
  | .mk h ks => if kidsF h.k = some ks.length ∧ ¬ (h.k = 9 ∧ (h.rel < 1 ∨ 6 < h.rel)) then (if h.k = 9 then (ofTs ks).map (mkA h) else (ofFs ks).map (mkF h)) else none
def ofFs : List Tr → Option (List Fo)
  | [] => some []
  | k :: ks => match ofF k with
    | none => none
    | some p => (ofFs ks).map (p :: ·)
end
theorem mkF_ne (h : Hd) (ps : List Fo) : mkF h ps ≠ .odd := by
  unfold mkF
  repeat' split
  all_goals (intro e; cases e)
theorem ofF_ne {t : Tr} {f : Fo} (h : ofF t = some f) : f ≠ .odd := by
  cases t with
  | mk hd ks =>
    unfold ofF at h
    split at h
    · split at h
      · cases hk : ofTs ks with
        | none => rw [hk] at h; cases h
        | some ps =>
          rw [hk] at h
          simp only [Option.map_some, Option.some.injEq] at h
          rw [← h]; intro e; cases e
      · cases hk : ofFs ks with
        | none => rw [hk] at h; cases h
        | some ps =>
          rw [hk] at h
          simp only [Option.map_some, Option.some.injEq] at h
          rw [← h]; exact mkF_ne _ _
    · cases h
def OfPost (t : Tr) (w : World) (e : Ending) (w' : World) : Prop :=
  match ofF t with
  | none => e = .returned (.tuple #[.nilIface, .int .i64 9]) ∧ Below w.heap.size w w'
  | some f => ∃ v, e = .returned (.tuple #[v, .int .i64 0]) ∧ FoAt w' (Fr w w') f v ∧ Below w.heap.size w w'
theorem OfPost.no {t : Tr} {w w' : World} {e : Ending} (h : OfPost t w e w') (hn : ofF t = none) : e = .returned (.tuple #[.nilIface, .int .i64 9]) ∧ Below w.heap.size w w' := by
  unfold OfPost at h; rw [hn] at h; exact h
theorem OfPost.yes {t : Tr} {w w' : World} {e : Ending} (h : OfPost t w e w') {f : Fo} (hn : ofF t = some f) : ∃ v, e = .returned (.tuple #[v, .int .i64 0]) ∧ FoAt w' (Fr w w') f v ∧ Below w.heap.size w w' := by
  unfold OfPost at h; rw [hn] at h; exact h
theorem OfPost.mkNo {t : Tr} {w w' : World} (hn : ofF t = none) (hb : Below w.heap.size w w') : OfPost t w (.returned (.tuple #[.nilIface, .int .i64 9])) w' := by
  unfold OfPost; rw [hn]; exact ⟨rfl, hb⟩
theorem OfPost.mkYes {t : Tr} {w w' : World} {f : Fo} {v : Value} (hn : ofF t = some f) (hv : FoAt w' (Fr w w') f v) (hb : Below w.heap.size w w') : OfPost t w (.returned (.tuple #[v, .int .i64 0])) w' := by
  unfold OfPost; rw [hn]; exact ⟨v, rfl, hv, hb⟩

theorem nine_at {w : World} {b o : Nat} {x0 x1 x2 x3 x4 x5 x6 x7 x8 : Value} (h : ∀ j u, [x0, x1, x2, x3, x4, x5, x6, x7, x8][j]? = some u → w.cell? ⟨b, o + j, none⟩ = some u) :
    w.cell? ⟨b, o, none⟩ = some x0 ∧ w.cell? ⟨b, o + 1, none⟩ = some x1 ∧ w.cell? ⟨b, o + 2, none⟩ = some x2 ∧ w.cell? ⟨b, o + 3, none⟩ = some x3 ∧ w.cell? ⟨b, o + 4, none⟩ = some x4 ∧ w.cell? ⟨b, o + 5, none⟩ = some x5 ∧ w.cell? ⟨b, o + 6, none⟩ = some x6 ∧ w.cell? ⟨b, o + 7, none⟩ = some x7 ∧ w.cell? ⟨b, o + 8, none⟩ = some x8 :=
  ⟨h 0 _ rfl, h 1 _ rfl, h 2 _ rfl, h 3 _ rfl, h 4 _ rfl, h 5 _ rfl, h 6 _ rfl, h 7 _ rfl, h 8 _ rfl⟩
theorem nine_list {cs : List Value} (h : cs.length = 9) : ∃ x0 x1 x2 x3 x4 x5 x6 x7 x8, cs = [x0, x1, x2, x3, x4, x5, x6, x7, x8] := by
  match cs, h with
  | [x0, x1, x2, x3, x4, x5, x6, x7, x8], _ => exact ⟨_, _, _, _, _, _, _, _, _, rfl⟩
theorem two_at {w : World} {S : Nat → Prop} {ks : List Tr} {A : Option Addr} {c : Nat} {xs : List Value} (hs : SS w S 9 (.slice A 2 c) 2 xs) (ht : TrsC w S ks xs) (hn : 2 = ks.length) :
    ∃ a d b o x0 x1 x2 x3 x4 x5 x6 x7 x8 y0 y1 y2 y3 y4 y5 y6 y7 y8, ks = [a, d] ∧ A = some ⟨b, o, none⟩ ∧ S b ∧ TreeAt w S a [x0, x1, x2, x3, x4, x5, x6, x7, x8] ∧ TreeAt w S d [y0, y1, y2, y3, y4, y5, y6, y7, y8] ∧
      (∀ w' : World, (∀ p : Addr, S p.block → w'.cell? p = w.cell? p) → ∀ j u, [x0, x1, x2, x3, x4, x5, x6, x7, x8][j]? = some u → w'.cell? ⟨b, o + j, none⟩ = some u) ∧
      (∀ w' : World, (∀ p : Addr, S p.block → w'.cell? p = w.cell? p) → ∀ j u, [y0, y1, y2, y3, y4, y5, y6, y7, y8][j]? = some u → w'.cell? ⟨b, o + 9 + j, none⟩ = some u) := by
  match ks, hn with
  | [a, d], _ =>
    obtain ⟨b, o, rfl, hb, hx⟩ := hs.at_ (by omega)
    unfold TrsC at ht
    obtain ⟨cs, rest, rfl, h1, ht⟩ := ht
    unfold TrsC at ht
    obtain ⟨ds, rest, rfl, h2, ht⟩ := ht
    unfold TrsC at ht
    subst ht
    have l1 := h1.len
    have l2 := h2.len
    obtain ⟨x0, x1, x2, x3, x4, x5, x6, x7, x8, rfl⟩ := nine_list l1
    obtain ⟨y0, y1, y2, y3, y4, y5, y6, y7, y8, rfl⟩ := nine_list l2
    refine ⟨a, d, b, o, _, _, _, _, _, _, _, _, _, _, _, _, _, _, _, _, _, _, rfl, rfl, hb, h1, h2, fun w' hw j u hj => (hw ⟨b, o + j, none⟩ hb).trans (hx j u ?_), fun w' hw j u hj => ?_⟩
    · rw [List.getElem?_append_left (by have := (List.getElem?_eq_some_iff.1 hj).1; simpa using this)]; exact hj
    · have h3 := hx (9 + j) u (by
        rw [List.getElem?_append_right (by simp)]
        rw [show 9 + j - [x0, x1, x2, x3, x4, x5, x6, x7, x8].length = j by simp]
        rw [List.getElem?_append_left (by have := (List.getElem?_eq_some_iff.1 hj).1; simpa using this)]; exact hj)
      rw [show o + 9 + j = o + (9 + j) by omega]
      exact (hw ⟨b, o + (9 + j), none⟩ hb).trans h3
theorem one_at {w : World} {S : Nat → Prop} {ks : List Tr} {A : Option Addr} {c : Nat} {xs : List Value} (hs : SS w S 9 (.slice A 1 c) 1 xs) (ht : TrsC w S ks xs) (hn : 1 = ks.length) :
    ∃ a b o x0 x1 x2 x3 x4 x5 x6 x7 x8, ks = [a] ∧ A = some ⟨b, o, none⟩ ∧ S b ∧ TreeAt w S a [x0, x1, x2, x3, x4, x5, x6, x7, x8] ∧
      (∀ w' : World, (∀ p : Addr, S p.block → w'.cell? p = w.cell? p) → ∀ j u, [x0, x1, x2, x3, x4, x5, x6, x7, x8][j]? = some u → w'.cell? ⟨b, o + j, none⟩ = some u) := by
  match ks, hn with
  | [a], _ =>
    obtain ⟨b, o, rfl, hb, hx⟩ := hs.at_ (by omega)
    unfold TrsC at ht
    obtain ⟨cs, rest, rfl, h1, ht⟩ := ht
    unfold TrsC at ht
    subst ht
    have l1 := h1.len
    obtain ⟨x0, x1, x2, x3, x4, x5, x6, x7, x8, rfl⟩ := nine_list l1
    refine ⟨a, b, o, _, _, _, _, _, _, _, _, _, rfl, rfl, hb, h1, fun w' hw j u hj => (hw ⟨b, o + j, none⟩ hb).trans (hx j u ?_)⟩
    simpa using hj

def OfFIH (ks : List Tr) : Prop := ∀ kd ∈ ks, ∀ (cs : List Value) (S : Nat → Prop) (w : World), (∀ b, S b → b < w.heap.size) → TreeAt w S kd cs → Sm kd → Calls Tryd.prog 9 #[.agg cs.toArray] w (OfPost kd w)


set_option maxRecDepth 100000 in
set_option maxHeartbeats 4000000 in
theorem atomOf_two (neg : Bool) (abs : List Nat) (name : ByteArray) (exp rel : Int) (truth all : Bool) (a d : Tr) (hrel : 1 ≤ rel ∧ rel ≤ 6) (A1 : Option Addr) (n1 c1 c2 b o : Nat) (x0 x1 x2 x3 x4 x5 x6 x7 x8 y0 y1 y2 y3 y4 y5 y6 y7 y8 : Value) (S : Nat → Prop) (w : World) (hS : ∀ b, S b → b < w.heap.size) (hc : 2 ≤ c2)
    (hSb : S b) (hTa : TreeAt w S a [x0, x1, x2, x3, x4, x5, x6, x7, x8]) (hTd : TreeAt w S d [y0, y1, y2, y3, y4, y5, y6, y7, y8]) (hsa : Sm a) (hsd : Sm d)
    (hX : ∀ w' : World, (∀ p : Addr, S p.block → w'.cell? p = w.cell? p) → ∀ j u, [x0, x1, x2, x3, x4, x5, x6, x7, x8][j]? = some u → w'.cell? ⟨b, o + j, none⟩ = some u)
    (hY : ∀ w' : World, (∀ p : Addr, S p.block → w'.cell? p = w.cell? p) → ∀ j u, [y0, y1, y2, y3, y4, y5, y6, y7, y8][j]? = some u → w'.cell? ⟨b, o + 9 + j, none⟩ = some u) :
    Calls Tryd.prog 23 #[.agg #[.int .i64 9, .bool neg, .slice A1 n1 c1, .string name, .int .i64 exp, .int .i64 rel, .bool truth, .bool all, .slice (some ⟨b, o, none⟩) 2 c2]] w (OfPost (.mk ⟨9, neg, abs, name, exp, rel, truth, all⟩ [a, d]) w) := by
  obtain ⟨W, hW⟩ : ∃ W, w.alloc (.cells #[.int .i64 9, .bool neg, .slice A1 n1 c1, .string name, .int .i64 exp, .int .i64 rel, .bool truth, .bool all, .slice (some ⟨b, o, none⟩) 2 c2] TT) = W := ⟨_, rfl⟩
  have hx : Box w W w.heap.size #[.int .i64 9, .bool neg, .slice A1 n1 c1, .string name, .int .i64 exp, .int .i64 rel, .bool truth, .bool all, .slice (some ⟨b, o, none⟩) 2 c2] TT := by rw [← hW]; exact Box.new w _ _
  have hkW : ∀ p : Addr, S p.block → W.cell? p = w.cell? p := fun p hp => hx.below.cell (hS _ hp)
  obtain ⟨b0, b1, b2, b3, b4, b5, b6, b7, b8⟩ := hx.c9
  obtain ⟨g0, g1, g2, g3, g4, g5, g6, g7, g8⟩ := nine_at (hX W hkW)
  have HC1 := Lib.hid (ofTerm_any a [x0, x1, x2, x3, x4, x5, x6, x7, x8] S W (fun b hb => Nat.lt_of_lt_of_le (hS b hb) hx.below.size) (hTa.below hS hx.below) hsa)
  have HX := Lib.hid hx
  have HKW := Lib.hid hkW
  have HY := Lib.hid hY
  have HS := Lib.hid hS
  have HTD := Lib.hid (hTd.below hS hx.below)
  have HSD := Lib.hid hsd
  skip
  cases ha : ofT a with
  | none =>
    have HN := Lib.hid (show ofF (.mk ⟨9, neg, abs, name, exp, rel, truth, all⟩ [a, d]) = none from (by unfold ofF; rw [if_pos (by simp [kidsF]; omega), if_pos rfl]; unfold ofTs; rw [ha]; rfl))
    have HA := Lib.hid ha
    clear hx hkW hX hY hTa hTd hsa hsd hS hSb ha
    go_enter Tryd.func23, Tryd.ntmps23
    go_wp2_with (go_at_call 12; refine HC1.out.mono ?_; intro e w1 hq; obtain ⟨rfl, hb1⟩ := hq.no HA.out; clear hq hW)
    go_ret2
    exact OfPost.mkNo HN.out (HX.out.step hb1).below
  | some ta =>
    cases hd : ofT d with
    | none =>
      have HN := Lib.hid (show ofF (.mk ⟨9, neg, abs, name, exp, rel, truth, all⟩ [a, d]) = none from (by unfold ofF; rw [if_pos (by simp [kidsF]; omega), if_pos rfl]; unfold ofTs ofTs; rw [ha, hd]; rfl))
      have HA := Lib.hid ha
      have HD := Lib.hid hd
      have HNA := Lib.hid (ofT_ne ha)
      clear hx hkW hX hY hTa hTd hsa hsd hS hSb ha hd
      go_enter Tryd.func23, Tryd.ntmps23
      go_wp2_with (first
        | (go_at_call 12; (with_reducible refine HC1.out.mono ?_); intro e w1 hq; obtain ⟨va, rfl, hva, hb1⟩ := hq.yes HA.out; obtain ⟨u1, z1, rfl⟩ := hva.iface HNA.out; clear hq hva hW; obtain ⟨-, -, -, -, -, p5, -, -, p8⟩ := (HX.out.step hb1).c9; obtain ⟨q0, q1, q2, q3, q4, q5, q6, q7, q8⟩ := nine_at (HY.out w1 (fun p hp => (hb1.cell (Nat.lt_of_lt_of_le (HS.out _ hp) HX.out.below.size)).trans (HKW.out p hp))); have HC2 := Lib.hid (ofTerm_any d [y0, y1, y2, y3, y4, y5, y6, y7, y8] S w1 (fun b hb => Nat.lt_of_lt_of_le (HS.out b hb) (HX.out.step hb1).below.size) (HTD.out.below (fun b hb => Nat.lt_of_lt_of_le (HS.out b hb) HX.out.below.size) hb1) HSD.out); have HX1 := Lib.hid (HX.out.step hb1); clear hb1 b0 b1 b2 b3 b4 b5 b6 b7 b8 g0 g1 g2 g3 g4 g5 g6 g7 g8)
        | (go_at_call 12; (with_reducible refine HC2.out.mono ?_); intro e w2 hq; obtain ⟨rfl, hb2⟩ := hq.no HD.out; clear hq))
      go_ret2
      exact OfPost.mkNo HN.out (HX1.out.step hb2).below
    | some td =>
      have HN := Lib.hid (show ofF (.mk ⟨9, neg, abs, name, exp, rel, truth, all⟩ [a, d]) = some (.atom ta rel td) from (by unfold ofF; rw [if_pos (by simp [kidsF]; omega), if_pos rfl]; unfold ofTs ofTs ofTs; rw [ha, hd]; rfl))
      have HA := Lib.hid ha
      have HD := Lib.hid hd
      have HNA := Lib.hid (ofT_ne ha)
      have HND := Lib.hid (ofT_ne hd)
      clear hx hkW hX hY hTa hTd hsa hsd hS hSb ha hd
      go_enter Tryd.func23, Tryd.ntmps23
      go_wp2_with (first
        | (go_at_call 12; (with_reducible refine HC1.out.mono ?_); intro e w1 hq; obtain ⟨va, rfl, hva, hb1⟩ := hq.yes HA.out; obtain ⟨u1, z1, rfl⟩ := hva.iface HNA.out; have HVA := Lib.hid hva; clear hq hva hW; obtain ⟨-, -, -, -, -, p5, -, -, p8⟩ := (HX.out.step hb1).c9; obtain ⟨q0, q1, q2, q3, q4, q5, q6, q7, q8⟩ := nine_at (HY.out w1 (fun p hp => (hb1.cell (Nat.lt_of_lt_of_le (HS.out _ hp) HX.out.below.size)).trans (HKW.out p hp))); have HC2 := Lib.hid (ofTerm_any d [y0, y1, y2, y3, y4, y5, y6, y7, y8] S w1 (fun b hb => Nat.lt_of_lt_of_le (HS.out b hb) (HX.out.step hb1).below.size) (HTD.out.below (fun b hb => Nat.lt_of_lt_of_le (HS.out b hb) HX.out.below.size) hb1) HSD.out); have HX1 := Lib.hid (HX.out.step hb1); clear hb1 b0 b1 b2 b3 b4 b5 b6 b7 b8 g0 g1 g2 g3 g4 g5 g6 g7 g8)
        | (go_at_call 12; (with_reducible refine HC2.out.mono ?_); intro e w2 hq; obtain ⟨vd, rfl, hvd, hb2⟩ := hq.yes HD.out; obtain ⟨u2, z2, rfl⟩ := hvd.iface HND.out; have HVD := Lib.hid hvd; have HB2 := Lib.hid hb2; clear hq hvd; obtain ⟨r0, -, -, -, -, r5, -, -, -⟩ := (HX1.out.step hb2).c9; have HX2 := Lib.hid (HX1.out.step hb2); clear hb2 p5 p8 q0 q1 q2 q3 q4 q5 q6 q7 q8))
      go_ret2
      have hs1 := HX.out.below.size
      have hs2 := HX1.out.below.size
      refine OfPost.mkYes HN.out ?_ HX2.out.below
      exact ⟨_, _, rfl, TmAt.more (fun b hb => ⟨Nat.le_trans hs1 hb.1, Nat.lt_of_lt_of_le hb.2 HB2.out.size⟩) _ _ (HVA.out.below (fun b hb => hb.2) HB2.out), TmAt.more (fun b hb => ⟨Nat.le_trans hs2 hb.1, hb.2⟩) _ _ HVD.out⟩


set_option maxRecDepth 100000 in
set_option maxHeartbeats 4000000 in
theorem binaryOf_and (neg : Bool) (abs : List Nat) (name : ByteArray) (exp rel : Int) (truth all : Bool) (a d : Tr) (ih : OfFIH [a, d]) (A1 : Option Addr) (n1 c1 c2 b o : Nat) (x0 x1 x2 x3 x4 x5 x6 x7 x8 y0 y1 y2 y3 y4 y5 y6 y7 y8 : Value) (S : Nat → Prop) (w : World) (hS : ∀ b, S b → b < w.heap.size) (hc : 2 ≤ c2)
    (hSb : S b) (hTa : TreeAt w S a [x0, x1, x2, x3, x4, x5, x6, x7, x8]) (hTd : TreeAt w S d [y0, y1, y2, y3, y4, y5, y6, y7, y8]) (hsa : Sm a) (hsd : Sm d)
    (hX : ∀ w' : World, (∀ p : Addr, S p.block → w'.cell? p = w.cell? p) → ∀ j u, [x0, x1, x2, x3, x4, x5, x6, x7, x8][j]? = some u → w'.cell? ⟨b, o + j, none⟩ = some u)
    (hY : ∀ w' : World, (∀ p : Addr, S p.block → w'.cell? p = w.cell? p) → ∀ j u, [y0, y1, y2, y3, y4, y5, y6, y7, y8][j]? = some u → w'.cell? ⟨b, o + 9 + j, none⟩ = some u) :
    Calls Tryd.prog 25 #[.agg #[.int .i64 11, .bool neg, .slice A1 n1 c1, .string name, .int .i64 exp, .int .i64 rel, .bool truth, .bool all, .slice (some ⟨b, o, none⟩) 2 c2]] w (OfPost (.mk ⟨11, neg, abs, name, exp, rel, truth, all⟩ [a, d]) w) := by
  obtain ⟨W, hW⟩ : ∃ W, w.alloc (.cells #[.int .i64 11, .bool neg, .slice A1 n1 c1, .string name, .int .i64 exp, .int .i64 rel, .bool truth, .bool all, .slice (some ⟨b, o, none⟩) 2 c2] TT) = W := ⟨_, rfl⟩
  have hx : Box w W w.heap.size #[.int .i64 11, .bool neg, .slice A1 n1 c1, .string name, .int .i64 exp, .int .i64 rel, .bool truth, .bool all, .slice (some ⟨b, o, none⟩) 2 c2] TT := by rw [← hW]; exact Box.new w _ _
  have hkW : ∀ p : Addr, S p.block → W.cell? p = w.cell? p := fun p hp => hx.below.cell (hS _ hp)
  obtain ⟨b0, b1, b2, b3, b4, b5, b6, b7, b8⟩ := hx.c9
  obtain ⟨g0, g1, g2, g3, g4, g5, g6, g7, g8⟩ := nine_at (hX W hkW)
  have HC1 := Lib.hid (ih a (by simp) [x0, x1, x2, x3, x4, x5, x6, x7, x8] S W (fun b hb => Nat.lt_of_lt_of_le (hS b hb) hx.below.size) (hTa.below hS hx.below) hsa)
  have HX := Lib.hid hx
  have HKW := Lib.hid hkW
  have HY := Lib.hid hY
  have HS := Lib.hid hS
  have HTD := Lib.hid (hTd.below hS hx.below)
  have HSD := Lib.hid hsd
  have IH := Lib.hid ih
  cases ha : ofF a with
  | none =>
    have HN := Lib.hid (show ofF (.mk ⟨11, neg, abs, name, exp, rel, truth, all⟩ [a, d]) = none from (by unfold ofF; rw [if_pos (by simp [kidsF]), if_neg (by simp)]; unfold ofFs; rw [ha]; rfl))
    have HA := Lib.hid ha
    clear hx hkW hX hY hTa hTd hsa hsd hS hSb ha
    go_enter Tryd.func25, Tryd.ntmps25
    go_wp2_with (go_at_call 9; refine HC1.out.mono ?_; intro e w1 hq; obtain ⟨rfl, hb1⟩ := hq.no HA.out; clear hq hW)
    go_ret2
    exact OfPost.mkNo HN.out (HX.out.step hb1).below
  | some ta =>
    cases hd : ofF d with
    | none =>
      have HN := Lib.hid (show ofF (.mk ⟨11, neg, abs, name, exp, rel, truth, all⟩ [a, d]) = none from (by unfold ofF; rw [if_pos (by simp [kidsF]), if_neg (by simp)]; unfold ofFs ofFs; rw [ha, hd]; rfl))
      have HA := Lib.hid ha
      have HD := Lib.hid hd
      have HNA := Lib.hid (ofF_ne ha)
      clear hx hkW hX hY hTa hTd hsa hsd hS hSb ha hd
      go_enter Tryd.func25, Tryd.ntmps25
      go_wp2_with (first
        | (go_at_call 9; (with_reducible refine HC1.out.mono ?_); intro e w1 hq; obtain ⟨va, rfl, hva, hb1⟩ := hq.yes HA.out; obtain ⟨u1, z1, rfl⟩ := hva.iface HNA.out; clear hq hva hW; obtain ⟨-, -, -, -, -, p5, -, -, p8⟩ := (HX.out.step hb1).c9; obtain ⟨q0, q1, q2, q3, q4, q5, q6, q7, q8⟩ := nine_at (HY.out w1 (fun p hp => (hb1.cell (Nat.lt_of_lt_of_le (HS.out _ hp) HX.out.below.size)).trans (HKW.out p hp))); have HC2 := Lib.hid (IH.out d (by simp) [y0, y1, y2, y3, y4, y5, y6, y7, y8] S w1 (fun b hb => Nat.lt_of_lt_of_le (HS.out b hb) (HX.out.step hb1).below.size) (HTD.out.below (fun b hb => Nat.lt_of_lt_of_le (HS.out b hb) HX.out.below.size) hb1) HSD.out); have HX1 := Lib.hid (HX.out.step hb1); clear hb1 b0 b1 b2 b3 b4 b5 b6 b7 b8 g0 g1 g2 g3 g4 g5 g6 g7 g8)
        | (go_at_call 9; (with_reducible refine HC2.out.mono ?_); intro e w2 hq; obtain ⟨rfl, hb2⟩ := hq.no HD.out; clear hq))
      go_ret2
      exact OfPost.mkNo HN.out (HX1.out.step hb2).below
    | some td =>
      have HN := Lib.hid (show ofF (.mk ⟨11, neg, abs, name, exp, rel, truth, all⟩ [a, d]) = some (.and ta td) from (by unfold ofF; rw [if_pos (by simp [kidsF]), if_neg (by simp)]; unfold ofFs ofFs ofFs; rw [ha, hd]; rfl))
      have HA := Lib.hid ha
      have HD := Lib.hid hd
      have HNA := Lib.hid (ofF_ne ha)
      have HND := Lib.hid (ofF_ne hd)
      clear hx hkW hX hY hTa hTd hsa hsd hS hSb ha hd
      go_enter Tryd.func25, Tryd.ntmps25
      go_wp2_with (first
        | (go_at_call 9; (with_reducible refine HC1.out.mono ?_); intro e w1 hq; obtain ⟨va, rfl, hva, hb1⟩ := hq.yes HA.out; obtain ⟨u1, z1, rfl⟩ := hva.iface HNA.out; have HVA := Lib.hid hva; clear hq hva hW; obtain ⟨-, -, -, -, -, p5, -, -, p8⟩ := (HX.out.step hb1).c9; obtain ⟨q0, q1, q2, q3, q4, q5, q6, q7, q8⟩ := nine_at (HY.out w1 (fun p hp => (hb1.cell (Nat.lt_of_lt_of_le (HS.out _ hp) HX.out.below.size)).trans (HKW.out p hp))); have HC2 := Lib.hid (IH.out d (by simp) [y0, y1, y2, y3, y4, y5, y6, y7, y8] S w1 (fun b hb => Nat.lt_of_lt_of_le (HS.out b hb) (HX.out.step hb1).below.size) (HTD.out.below (fun b hb => Nat.lt_of_lt_of_le (HS.out b hb) HX.out.below.size) hb1) HSD.out); have HX1 := Lib.hid (HX.out.step hb1); clear hb1 b0 b1 b2 b3 b4 b5 b6 b7 b8 g0 g1 g2 g3 g4 g5 g6 g7 g8)
        | (go_at_call 9; (with_reducible refine HC2.out.mono ?_); intro e w2 hq; obtain ⟨vd, rfl, hvd, hb2⟩ := hq.yes HD.out; obtain ⟨u2, z2, rfl⟩ := hvd.iface HND.out; have HVD := Lib.hid hvd; have HB2 := Lib.hid hb2; clear hq hvd; obtain ⟨r0, -, -, -, -, r5, -, -, -⟩ := (HX1.out.step hb2).c9; have HX2 := Lib.hid (HX1.out.step hb2); clear hb2 p5 p8 q0 q1 q2 q3 q4 q5 q6 q7 q8))
      go_ret2
      have hs1 := HX.out.below.size
      have hs2 := HX1.out.below.size
      refine OfPost.mkYes HN.out ?_ HX2.out.below
      exact ⟨_, _, rfl, FoAt.more (fun b hb => ⟨Nat.le_trans hs1 hb.1, Nat.lt_of_lt_of_le hb.2 HB2.out.size⟩) _ _ (HVA.out.below (fun b hb => hb.2) HB2.out), FoAt.more (fun b hb => ⟨Nat.le_trans hs2 hb.1, hb.2⟩) _ _ HVD.out⟩


set_option maxRecDepth 100000 in
set_option maxHeartbeats 4000000 in
theorem binaryOf_or (neg : Bool) (abs : List Nat) (name : ByteArray) (exp rel : Int) (truth all : Bool) (a d : Tr) (ih : OfFIH [a, d]) (A1 : Option Addr) (n1 c1 c2 b o : Nat) (x0 x1 x2 x3 x4 x5 x6 x7 x8 y0 y1 y2 y3 y4 y5 y6 y7 y8 : Value) (S : Nat → Prop) (w : World) (hS : ∀ b, S b → b < w.heap.size) (hc : 2 ≤ c2)
    (hSb : S b) (hTa : TreeAt w S a [x0, x1, x2, x3, x4, x5, x6, x7, x8]) (hTd : TreeAt w S d [y0, y1, y2, y3, y4, y5, y6, y7, y8]) (hsa : Sm a) (hsd : Sm d)
    (hX : ∀ w' : World, (∀ p : Addr, S p.block → w'.cell? p = w.cell? p) → ∀ j u, [x0, x1, x2, x3, x4, x5, x6, x7, x8][j]? = some u → w'.cell? ⟨b, o + j, none⟩ = some u)
    (hY : ∀ w' : World, (∀ p : Addr, S p.block → w'.cell? p = w.cell? p) → ∀ j u, [y0, y1, y2, y3, y4, y5, y6, y7, y8][j]? = some u → w'.cell? ⟨b, o + 9 + j, none⟩ = some u) :
    Calls Tryd.prog 25 #[.agg #[.int .i64 12, .bool neg, .slice A1 n1 c1, .string name, .int .i64 exp, .int .i64 rel, .bool truth, .bool all, .slice (some ⟨b, o, none⟩) 2 c2]] w (OfPost (.mk ⟨12, neg, abs, name, exp, rel, truth, all⟩ [a, d]) w) := by
  obtain ⟨W, hW⟩ : ∃ W, w.alloc (.cells #[.int .i64 12, .bool neg, .slice A1 n1 c1, .string name, .int .i64 exp, .int .i64 rel, .bool truth, .bool all, .slice (some ⟨b, o, none⟩) 2 c2] TT) = W := ⟨_, rfl⟩
  have hx : Box w W w.heap.size #[.int .i64 12, .bool neg, .slice A1 n1 c1, .string name, .int .i64 exp, .int .i64 rel, .bool truth, .bool all, .slice (some ⟨b, o, none⟩) 2 c2] TT := by rw [← hW]; exact Box.new w _ _
  have hkW : ∀ p : Addr, S p.block → W.cell? p = w.cell? p := fun p hp => hx.below.cell (hS _ hp)
  obtain ⟨b0, b1, b2, b3, b4, b5, b6, b7, b8⟩ := hx.c9
  obtain ⟨g0, g1, g2, g3, g4, g5, g6, g7, g8⟩ := nine_at (hX W hkW)
  have HC1 := Lib.hid (ih a (by simp) [x0, x1, x2, x3, x4, x5, x6, x7, x8] S W (fun b hb => Nat.lt_of_lt_of_le (hS b hb) hx.below.size) (hTa.below hS hx.below) hsa)
  have HX := Lib.hid hx
  have HKW := Lib.hid hkW
  have HY := Lib.hid hY
  have HS := Lib.hid hS
  have HTD := Lib.hid (hTd.below hS hx.below)
  have HSD := Lib.hid hsd
  have IH := Lib.hid ih
  cases ha : ofF a with
  | none =>
    have HN := Lib.hid (show ofF (.mk ⟨12, neg, abs, name, exp, rel, truth, all⟩ [a, d]) = none from (by unfold ofF; rw [if_pos (by simp [kidsF]), if_neg (by simp)]; unfold ofFs; rw [ha]; rfl))
    have HA := Lib.hid ha
    clear hx hkW hX hY hTa hTd hsa hsd hS hSb ha
    go_enter Tryd.func25, Tryd.ntmps25
    go_wp2_with (go_at_call 9; refine HC1.out.mono ?_; intro e w1 hq; obtain ⟨rfl, hb1⟩ := hq.no HA.out; clear hq hW)
    go_ret2
    exact OfPost.mkNo HN.out (HX.out.step hb1).below
  | some ta =>
    cases hd : ofF d with
    | none =>
      have HN := Lib.hid (show ofF (.mk ⟨12, neg, abs, name, exp, rel, truth, all⟩ [a, d]) = none from (by unfold ofF; rw [if_pos (by simp [kidsF]), if_neg (by simp)]; unfold ofFs ofFs; rw [ha, hd]; rfl))
      have HA := Lib.hid ha
      have HD := Lib.hid hd
      have HNA := Lib.hid (ofF_ne ha)
      clear hx hkW hX hY hTa hTd hsa hsd hS hSb ha hd
      go_enter Tryd.func25, Tryd.ntmps25
      go_wp2_with (first
        | (go_at_call 9; (with_reducible refine HC1.out.mono ?_); intro e w1 hq; obtain ⟨va, rfl, hva, hb1⟩ := hq.yes HA.out; obtain ⟨u1, z1, rfl⟩ := hva.iface HNA.out; clear hq hva hW; obtain ⟨-, -, -, -, -, p5, -, -, p8⟩ := (HX.out.step hb1).c9; obtain ⟨q0, q1, q2, q3, q4, q5, q6, q7, q8⟩ := nine_at (HY.out w1 (fun p hp => (hb1.cell (Nat.lt_of_lt_of_le (HS.out _ hp) HX.out.below.size)).trans (HKW.out p hp))); have HC2 := Lib.hid (IH.out d (by simp) [y0, y1, y2, y3, y4, y5, y6, y7, y8] S w1 (fun b hb => Nat.lt_of_lt_of_le (HS.out b hb) (HX.out.step hb1).below.size) (HTD.out.below (fun b hb => Nat.lt_of_lt_of_le (HS.out b hb) HX.out.below.size) hb1) HSD.out); have HX1 := Lib.hid (HX.out.step hb1); clear hb1 b0 b1 b2 b3 b4 b5 b6 b7 b8 g0 g1 g2 g3 g4 g5 g6 g7 g8)
        | (go_at_call 9; (with_reducible refine HC2.out.mono ?_); intro e w2 hq; obtain ⟨rfl, hb2⟩ := hq.no HD.out; clear hq))
      go_ret2
      exact OfPost.mkNo HN.out (HX1.out.step hb2).below
    | some td =>
      have HN := Lib.hid (show ofF (.mk ⟨12, neg, abs, name, exp, rel, truth, all⟩ [a, d]) = some (.or ta td) from (by unfold ofF; rw [if_pos (by simp [kidsF]), if_neg (by simp)]; unfold ofFs ofFs ofFs; rw [ha, hd]; rfl))
      have HA := Lib.hid ha
      have HD := Lib.hid hd
      have HNA := Lib.hid (ofF_ne ha)
      have HND := Lib.hid (ofF_ne hd)
      clear hx hkW hX hY hTa hTd hsa hsd hS hSb ha hd
      go_enter Tryd.func25, Tryd.ntmps25
      go_wp2_with (first
        | (go_at_call 9; (with_reducible refine HC1.out.mono ?_); intro e w1 hq; obtain ⟨va, rfl, hva, hb1⟩ := hq.yes HA.out; obtain ⟨u1, z1, rfl⟩ := hva.iface HNA.out; have HVA := Lib.hid hva; clear hq hva hW; obtain ⟨-, -, -, -, -, p5, -, -, p8⟩ := (HX.out.step hb1).c9; obtain ⟨q0, q1, q2, q3, q4, q5, q6, q7, q8⟩ := nine_at (HY.out w1 (fun p hp => (hb1.cell (Nat.lt_of_lt_of_le (HS.out _ hp) HX.out.below.size)).trans (HKW.out p hp))); have HC2 := Lib.hid (IH.out d (by simp) [y0, y1, y2, y3, y4, y5, y6, y7, y8] S w1 (fun b hb => Nat.lt_of_lt_of_le (HS.out b hb) (HX.out.step hb1).below.size) (HTD.out.below (fun b hb => Nat.lt_of_lt_of_le (HS.out b hb) HX.out.below.size) hb1) HSD.out); have HX1 := Lib.hid (HX.out.step hb1); clear hb1 b0 b1 b2 b3 b4 b5 b6 b7 b8 g0 g1 g2 g3 g4 g5 g6 g7 g8)
        | (go_at_call 9; (with_reducible refine HC2.out.mono ?_); intro e w2 hq; obtain ⟨vd, rfl, hvd, hb2⟩ := hq.yes HD.out; obtain ⟨u2, z2, rfl⟩ := hvd.iface HND.out; have HVD := Lib.hid hvd; have HB2 := Lib.hid hb2; clear hq hvd; obtain ⟨r0, -, -, -, -, r5, -, -, -⟩ := (HX1.out.step hb2).c9; have HX2 := Lib.hid (HX1.out.step hb2); clear hb2 p5 p8 q0 q1 q2 q3 q4 q5 q6 q7 q8))
      go_ret2
      have hs1 := HX.out.below.size
      have hs2 := HX1.out.below.size
      refine OfPost.mkYes HN.out ?_ HX2.out.below
      exact ⟨_, _, rfl, FoAt.more (fun b hb => ⟨Nat.le_trans hs1 hb.1, Nat.lt_of_lt_of_le hb.2 HB2.out.size⟩) _ _ (HVA.out.below (fun b hb => hb.2) HB2.out), FoAt.more (fun b hb => ⟨Nat.le_trans hs2 hb.1, hb.2⟩) _ _ HVD.out⟩


set_option maxRecDepth 100000 in
set_option maxHeartbeats 4000000 in
theorem binaryOf_implies (neg : Bool) (abs : List Nat) (name : ByteArray) (exp rel : Int) (truth all : Bool) (a d : Tr) (ih : OfFIH [a, d]) (A1 : Option Addr) (n1 c1 c2 b o : Nat) (x0 x1 x2 x3 x4 x5 x6 x7 x8 y0 y1 y2 y3 y4 y5 y6 y7 y8 : Value) (S : Nat → Prop) (w : World) (hS : ∀ b, S b → b < w.heap.size) (hc : 2 ≤ c2)
    (hSb : S b) (hTa : TreeAt w S a [x0, x1, x2, x3, x4, x5, x6, x7, x8]) (hTd : TreeAt w S d [y0, y1, y2, y3, y4, y5, y6, y7, y8]) (hsa : Sm a) (hsd : Sm d)
    (hX : ∀ w' : World, (∀ p : Addr, S p.block → w'.cell? p = w.cell? p) → ∀ j u, [x0, x1, x2, x3, x4, x5, x6, x7, x8][j]? = some u → w'.cell? ⟨b, o + j, none⟩ = some u)
    (hY : ∀ w' : World, (∀ p : Addr, S p.block → w'.cell? p = w.cell? p) → ∀ j u, [y0, y1, y2, y3, y4, y5, y6, y7, y8][j]? = some u → w'.cell? ⟨b, o + 9 + j, none⟩ = some u) :
    Calls Tryd.prog 25 #[.agg #[.int .i64 13, .bool neg, .slice A1 n1 c1, .string name, .int .i64 exp, .int .i64 rel, .bool truth, .bool all, .slice (some ⟨b, o, none⟩) 2 c2]] w (OfPost (.mk ⟨13, neg, abs, name, exp, rel, truth, all⟩ [a, d]) w) := by
  obtain ⟨W, hW⟩ : ∃ W, w.alloc (.cells #[.int .i64 13, .bool neg, .slice A1 n1 c1, .string name, .int .i64 exp, .int .i64 rel, .bool truth, .bool all, .slice (some ⟨b, o, none⟩) 2 c2] TT) = W := ⟨_, rfl⟩
  have hx : Box w W w.heap.size #[.int .i64 13, .bool neg, .slice A1 n1 c1, .string name, .int .i64 exp, .int .i64 rel, .bool truth, .bool all, .slice (some ⟨b, o, none⟩) 2 c2] TT := by rw [← hW]; exact Box.new w _ _
  have hkW : ∀ p : Addr, S p.block → W.cell? p = w.cell? p := fun p hp => hx.below.cell (hS _ hp)
  obtain ⟨b0, b1, b2, b3, b4, b5, b6, b7, b8⟩ := hx.c9
  obtain ⟨g0, g1, g2, g3, g4, g5, g6, g7, g8⟩ := nine_at (hX W hkW)
  have HC1 := Lib.hid (ih a (by simp) [x0, x1, x2, x3, x4, x5, x6, x7, x8] S W (fun b hb => Nat.lt_of_lt_of_le (hS b hb) hx.below.size) (hTa.below hS hx.below) hsa)
  have HX := Lib.hid hx
  have HKW := Lib.hid hkW
  have HY := Lib.hid hY
  have HS := Lib.hid hS
  have HTD := Lib.hid (hTd.below hS hx.below)
  have HSD := Lib.hid hsd
  have IH := Lib.hid ih
  cases ha : ofF a with
  | none =>
    have HN := Lib.hid (show ofF (.mk ⟨13, neg, abs, name, exp, rel, truth, all⟩ [a, d]) = none from (by unfold ofF; rw [if_pos (by simp [kidsF]), if_neg (by simp)]; unfold ofFs; rw [ha]; rfl))
    have HA := Lib.hid ha
    clear hx hkW hX hY hTa hTd hsa hsd hS hSb ha
    go_enter Tryd.func25, Tryd.ntmps25
    go_wp2_with (go_at_call 9; refine HC1.out.mono ?_; intro e w1 hq; obtain ⟨rfl, hb1⟩ := hq.no HA.out; clear hq hW)
    go_ret2
    exact OfPost.mkNo HN.out (HX.out.step hb1).below
  | some ta =>
    cases hd : ofF d with
    | none =>
      have HN := Lib.hid (show ofF (.mk ⟨13, neg, abs, name, exp, rel, truth, all⟩ [a, d]) = none from (by unfold ofF; rw [if_pos (by simp [kidsF]), if_neg (by simp)]; unfold ofFs ofFs; rw [ha, hd]; rfl))
      have HA := Lib.hid ha
      have HD := Lib.hid hd
      have HNA := Lib.hid (ofF_ne ha)
      clear hx hkW hX hY hTa hTd hsa hsd hS hSb ha hd
      go_enter Tryd.func25, Tryd.ntmps25
      go_wp2_with (first
        | (go_at_call 9; (with_reducible refine HC1.out.mono ?_); intro e w1 hq; obtain ⟨va, rfl, hva, hb1⟩ := hq.yes HA.out; obtain ⟨u1, z1, rfl⟩ := hva.iface HNA.out; clear hq hva hW; obtain ⟨-, -, -, -, -, p5, -, -, p8⟩ := (HX.out.step hb1).c9; obtain ⟨q0, q1, q2, q3, q4, q5, q6, q7, q8⟩ := nine_at (HY.out w1 (fun p hp => (hb1.cell (Nat.lt_of_lt_of_le (HS.out _ hp) HX.out.below.size)).trans (HKW.out p hp))); have HC2 := Lib.hid (IH.out d (by simp) [y0, y1, y2, y3, y4, y5, y6, y7, y8] S w1 (fun b hb => Nat.lt_of_lt_of_le (HS.out b hb) (HX.out.step hb1).below.size) (HTD.out.below (fun b hb => Nat.lt_of_lt_of_le (HS.out b hb) HX.out.below.size) hb1) HSD.out); have HX1 := Lib.hid (HX.out.step hb1); clear hb1 b0 b1 b2 b3 b4 b5 b6 b7 b8 g0 g1 g2 g3 g4 g5 g6 g7 g8)
        | (go_at_call 9; (with_reducible refine HC2.out.mono ?_); intro e w2 hq; obtain ⟨rfl, hb2⟩ := hq.no HD.out; clear hq))
      go_ret2
      exact OfPost.mkNo HN.out (HX1.out.step hb2).below
    | some td =>
      have HN := Lib.hid (show ofF (.mk ⟨13, neg, abs, name, exp, rel, truth, all⟩ [a, d]) = some (.implies ta td) from (by unfold ofF; rw [if_pos (by simp [kidsF]), if_neg (by simp)]; unfold ofFs ofFs ofFs; rw [ha, hd]; rfl))
      have HA := Lib.hid ha
      have HD := Lib.hid hd
      have HNA := Lib.hid (ofF_ne ha)
      have HND := Lib.hid (ofF_ne hd)
      clear hx hkW hX hY hTa hTd hsa hsd hS hSb ha hd
      go_enter Tryd.func25, Tryd.ntmps25
      go_wp2_with (first
        | (go_at_call 9; (with_reducible refine HC1.out.mono ?_); intro e w1 hq; obtain ⟨va, rfl, hva, hb1⟩ := hq.yes HA.out; obtain ⟨u1, z1, rfl⟩ := hva.iface HNA.out; have HVA := Lib.hid hva; clear hq hva hW; obtain ⟨-, -, -, -, -, p5, -, -, p8⟩ := (HX.out.step hb1).c9; obtain ⟨q0, q1, q2, q3, q4, q5, q6, q7, q8⟩ := nine_at (HY.out w1 (fun p hp => (hb1.cell (Nat.lt_of_lt_of_le (HS.out _ hp) HX.out.below.size)).trans (HKW.out p hp))); have HC2 := Lib.hid (IH.out d (by simp) [y0, y1, y2, y3, y4, y5, y6, y7, y8] S w1 (fun b hb => Nat.lt_of_lt_of_le (HS.out b hb) (HX.out.step hb1).below.size) (HTD.out.below (fun b hb => Nat.lt_of_lt_of_le (HS.out b hb) HX.out.below.size) hb1) HSD.out); have HX1 := Lib.hid (HX.out.step hb1); clear hb1 b0 b1 b2 b3 b4 b5 b6 b7 b8 g0 g1 g2 g3 g4 g5 g6 g7 g8)
        | (go_at_call 9; (with_reducible refine HC2.out.mono ?_); intro e w2 hq; obtain ⟨vd, rfl, hvd, hb2⟩ := hq.yes HD.out; obtain ⟨u2, z2, rfl⟩ := hvd.iface HND.out; have HVD := Lib.hid hvd; have HB2 := Lib.hid hb2; clear hq hvd; obtain ⟨r0, -, -, -, -, r5, -, -, -⟩ := (HX1.out.step hb2).c9; have HX2 := Lib.hid (HX1.out.step hb2); clear hb2 p5 p8 q0 q1 q2 q3 q4 q5 q6 q7 q8))
      go_ret2
      have hs1 := HX.out.below.size
      have hs2 := HX1.out.below.size
      refine OfPost.mkYes HN.out ?_ HX2.out.below
      exact ⟨_, _, rfl, FoAt.more (fun b hb => ⟨Nat.le_trans hs1 hb.1, Nat.lt_of_lt_of_le hb.2 HB2.out.size⟩) _ _ (HVA.out.below (fun b hb => hb.2) HB2.out), FoAt.more (fun b hb => ⟨Nat.le_trans hs2 hb.1, hb.2⟩) _ _ HVD.out⟩


set_option maxRecDepth 100000 in
set_option maxHeartbeats 4000000 in
theorem binaryOf_iff (neg : Bool) (abs : List Nat) (name : ByteArray) (exp rel : Int) (truth all : Bool) (a d : Tr) (ih : OfFIH [a, d]) (A1 : Option Addr) (n1 c1 c2 b o : Nat) (x0 x1 x2 x3 x4 x5 x6 x7 x8 y0 y1 y2 y3 y4 y5 y6 y7 y8 : Value) (S : Nat → Prop) (w : World) (hS : ∀ b, S b → b < w.heap.size) (hc : 2 ≤ c2)
    (hSb : S b) (hTa : TreeAt w S a [x0, x1, x2, x3, x4, x5, x6, x7, x8]) (hTd : TreeAt w S d [y0, y1, y2, y3, y4, y5, y6, y7, y8]) (hsa : Sm a) (hsd : Sm d)
    (hX : ∀ w' : World, (∀ p : Addr, S p.block → w'.cell? p = w.cell? p) → ∀ j u, [x0, x1, x2, x3, x4, x5, x6, x7, x8][j]? = some u → w'.cell? ⟨b, o + j, none⟩ = some u)
    (hY : ∀ w' : World, (∀ p : Addr, S p.block → w'.cell? p = w.cell? p) → ∀ j u, [y0, y1, y2, y3, y4, y5, y6, y7, y8][j]? = some u → w'.cell? ⟨b, o + 9 + j, none⟩ = some u) :
    Calls Tryd.prog 25 #[.agg #[.int .i64 14, .bool neg, .slice A1 n1 c1, .string name, .int .i64 exp, .int .i64 rel, .bool truth, .bool all, .slice (some ⟨b, o, none⟩) 2 c2]] w (OfPost (.mk ⟨14, neg, abs, name, exp, rel, truth, all⟩ [a, d]) w) := by
  obtain ⟨W, hW⟩ : ∃ W, w.alloc (.cells #[.int .i64 14, .bool neg, .slice A1 n1 c1, .string name, .int .i64 exp, .int .i64 rel, .bool truth, .bool all, .slice (some ⟨b, o, none⟩) 2 c2] TT) = W := ⟨_, rfl⟩
  have hx : Box w W w.heap.size #[.int .i64 14, .bool neg, .slice A1 n1 c1, .string name, .int .i64 exp, .int .i64 rel, .bool truth, .bool all, .slice (some ⟨b, o, none⟩) 2 c2] TT := by rw [← hW]; exact Box.new w _ _
  have hkW : ∀ p : Addr, S p.block → W.cell? p = w.cell? p := fun p hp => hx.below.cell (hS _ hp)
  obtain ⟨b0, b1, b2, b3, b4, b5, b6, b7, b8⟩ := hx.c9
  obtain ⟨g0, g1, g2, g3, g4, g5, g6, g7, g8⟩ := nine_at (hX W hkW)
  have HC1 := Lib.hid (ih a (by simp) [x0, x1, x2, x3, x4, x5, x6, x7, x8] S W (fun b hb => Nat.lt_of_lt_of_le (hS b hb) hx.below.size) (hTa.below hS hx.below) hsa)
  have HX := Lib.hid hx
  have HKW := Lib.hid hkW
  have HY := Lib.hid hY
  have HS := Lib.hid hS
  have HTD := Lib.hid (hTd.below hS hx.below)
  have HSD := Lib.hid hsd
  have IH := Lib.hid ih
  cases ha : ofF a with
  | none =>
    have HN := Lib.hid (show ofF (.mk ⟨14, neg, abs, name, exp, rel, truth, all⟩ [a, d]) = none from (by unfold ofF; rw [if_pos (by simp [kidsF]), if_neg (by simp)]; unfold ofFs; rw [ha]; rfl))
    have HA := Lib.hid ha
    clear hx hkW hX hY hTa hTd hsa hsd hS hSb ha
    go_enter Tryd.func25, Tryd.ntmps25
    go_wp2_with (go_at_call 9; refine HC1.out.mono ?_; intro e w1 hq; obtain ⟨rfl, hb1⟩ := hq.no HA.out; clear hq hW)
    go_ret2
    exact OfPost.mkNo HN.out (HX.out.step hb1).below
  | some ta =>
    cases hd : ofF d with
    | none =>
      have HN := Lib.hid (show ofF (.mk ⟨14, neg, abs, name, exp, rel, truth, all⟩ [a, d]) = none from (by unfold ofF; rw [if_pos (by simp [kidsF]), if_neg (by simp)]; unfold ofFs ofFs; rw [ha, hd]; rfl))
      have HA := Lib.hid ha
      have HD := Lib.hid hd
      have HNA := Lib.hid (ofF_ne ha)
      clear hx hkW hX hY hTa hTd hsa hsd hS hSb ha hd
      go_enter Tryd.func25, Tryd.ntmps25
      go_wp2_with (first
        | (go_at_call 9; (with_reducible refine HC1.out.mono ?_); intro e w1 hq; obtain ⟨va, rfl, hva, hb1⟩ := hq.yes HA.out; obtain ⟨u1, z1, rfl⟩ := hva.iface HNA.out; clear hq hva hW; obtain ⟨-, -, -, -, -, p5, -, -, p8⟩ := (HX.out.step hb1).c9; obtain ⟨q0, q1, q2, q3, q4, q5, q6, q7, q8⟩ := nine_at (HY.out w1 (fun p hp => (hb1.cell (Nat.lt_of_lt_of_le (HS.out _ hp) HX.out.below.size)).trans (HKW.out p hp))); have HC2 := Lib.hid (IH.out d (by simp) [y0, y1, y2, y3, y4, y5, y6, y7, y8] S w1 (fun b hb => Nat.lt_of_lt_of_le (HS.out b hb) (HX.out.step hb1).below.size) (HTD.out.below (fun b hb => Nat.lt_of_lt_of_le (HS.out b hb) HX.out.below.size) hb1) HSD.out); have HX1 := Lib.hid (HX.out.step hb1); clear hb1 b0 b1 b2 b3 b4 b5 b6 b7 b8 g0 g1 g2 g3 g4 g5 g6 g7 g8)
        | (go_at_call 9; (with_reducible refine HC2.out.mono ?_); intro e w2 hq; obtain ⟨rfl, hb2⟩ := hq.no HD.out; clear hq))
      go_ret2
      exact OfPost.mkNo HN.out (HX1.out.step hb2).below
    | some td =>
      have HN := Lib.hid (show ofF (.mk ⟨14, neg, abs, name, exp, rel, truth, all⟩ [a, d]) = some (.iff ta td) from (by unfold ofF; rw [if_pos (by simp [kidsF]), if_neg (by simp)]; unfold ofFs ofFs ofFs; rw [ha, hd]; rfl))
      have HA := Lib.hid ha
      have HD := Lib.hid hd
      have HNA := Lib.hid (ofF_ne ha)
      have HND := Lib.hid (ofF_ne hd)
      clear hx hkW hX hY hTa hTd hsa hsd hS hSb ha hd
      go_enter Tryd.func25, Tryd.ntmps25
      go_wp2_with (first
        | (go_at_call 9; (with_reducible refine HC1.out.mono ?_); intro e w1 hq; obtain ⟨va, rfl, hva, hb1⟩ := hq.yes HA.out; obtain ⟨u1, z1, rfl⟩ := hva.iface HNA.out; have HVA := Lib.hid hva; clear hq hva hW; obtain ⟨-, -, -, -, -, p5, -, -, p8⟩ := (HX.out.step hb1).c9; obtain ⟨q0, q1, q2, q3, q4, q5, q6, q7, q8⟩ := nine_at (HY.out w1 (fun p hp => (hb1.cell (Nat.lt_of_lt_of_le (HS.out _ hp) HX.out.below.size)).trans (HKW.out p hp))); have HC2 := Lib.hid (IH.out d (by simp) [y0, y1, y2, y3, y4, y5, y6, y7, y8] S w1 (fun b hb => Nat.lt_of_lt_of_le (HS.out b hb) (HX.out.step hb1).below.size) (HTD.out.below (fun b hb => Nat.lt_of_lt_of_le (HS.out b hb) HX.out.below.size) hb1) HSD.out); have HX1 := Lib.hid (HX.out.step hb1); clear hb1 b0 b1 b2 b3 b4 b5 b6 b7 b8 g0 g1 g2 g3 g4 g5 g6 g7 g8)
        | (go_at_call 9; (with_reducible refine HC2.out.mono ?_); intro e w2 hq; obtain ⟨vd, rfl, hvd, hb2⟩ := hq.yes HD.out; obtain ⟨u2, z2, rfl⟩ := hvd.iface HND.out; have HVD := Lib.hid hvd; have HB2 := Lib.hid hb2; clear hq hvd; obtain ⟨r0, -, -, -, -, r5, -, -, -⟩ := (HX1.out.step hb2).c9; have HX2 := Lib.hid (HX1.out.step hb2); clear hb2 p5 p8 q0 q1 q2 q3 q4 q5 q6 q7 q8))
      go_ret2
      have hs1 := HX.out.below.size
      have hs2 := HX1.out.below.size
      refine OfPost.mkYes HN.out ?_ HX2.out.below
      exact ⟨_, _, rfl, FoAt.more (fun b hb => ⟨Nat.le_trans hs1 hb.1, Nat.lt_of_lt_of_le hb.2 HB2.out.size⟩) _ _ (HVA.out.below (fun b hb => hb.2) HB2.out), FoAt.more (fun b hb => ⟨Nat.le_trans hs2 hb.1, hb.2⟩) _ _ HVD.out⟩


set_option maxRecDepth 100000 in
set_option maxHeartbeats 4000000 in
theorem unaryOf_not (neg : Bool) (abs : List Nat) (name : ByteArray) (exp rel : Int) (truth all : Bool) (a : Tr) (ih : OfFIH [a]) (A1 : Option Addr) (n1 c1 c2 b o : Nat) (x0 x1 x2 x3 x4 x5 x6 x7 x8 : Value) (S : Nat → Prop) (w : World) (hS : ∀ b, S b → b < w.heap.size) (hc : 1 ≤ c2)
    (hSb : S b) (hTa : TreeAt w S a [x0, x1, x2, x3, x4, x5, x6, x7, x8]) (hsa : Sm a)
    (hX : ∀ w' : World, (∀ p : Addr, S p.block → w'.cell? p = w.cell? p) → ∀ j u, [x0, x1, x2, x3, x4, x5, x6, x7, x8][j]? = some u → w'.cell? ⟨b, o + j, none⟩ = some u) :
    Calls Tryd.prog 24 #[.agg #[.int .i64 10, .bool neg, .slice A1 n1 c1, .string name, .int .i64 exp, .int .i64 rel, .bool truth, .bool all, .slice (some ⟨b, o, none⟩) 1 c2]] w (OfPost (.mk ⟨10, neg, abs, name, exp, rel, truth, all⟩ [a]) w) := by
  obtain ⟨W, hW⟩ : ∃ W, w.alloc (.cells #[.int .i64 10, .bool neg, .slice A1 n1 c1, .string name, .int .i64 exp, .int .i64 rel, .bool truth, .bool all, .slice (some ⟨b, o, none⟩) 1 c2] TT) = W := ⟨_, rfl⟩
  have hx : Box w W w.heap.size #[.int .i64 10, .bool neg, .slice A1 n1 c1, .string name, .int .i64 exp, .int .i64 rel, .bool truth, .bool all, .slice (some ⟨b, o, none⟩) 1 c2] TT := by rw [← hW]; exact Box.new w _ _
  have hkW : ∀ p : Addr, S p.block → W.cell? p = w.cell? p := fun p hp => hx.below.cell (hS _ hp)
  obtain ⟨b0, b1, b2, b3, b4, b5, b6, b7, b8⟩ := hx.c9
  obtain ⟨g0, g1, g2, g3, g4, g5, g6, g7, g8⟩ := nine_at (hX W hkW)
  have HC1 := Lib.hid (ih a (by simp) [x0, x1, x2, x3, x4, x5, x6, x7, x8] S W (fun b hb => Nat.lt_of_lt_of_le (hS b hb) hx.below.size) (hTa.below hS hx.below) hsa)
  have HX := Lib.hid hx
  cases ha : ofF a with
  | none =>
    have HN := Lib.hid (show ofF (.mk ⟨10, neg, abs, name, exp, rel, truth, all⟩ [a]) = none from (by unfold ofF; rw [if_pos (by simp [kidsF]), if_neg (by simp)]; unfold ofFs; rw [ha]; rfl))
    have HA := Lib.hid ha
    clear hx hkW hX hTa hsa hS hSb ha ih
    go_enter Tryd.func24, Tryd.ntmps24
    go_wp2_with (go_at_call 9; refine HC1.out.mono ?_; intro e w1 hq; obtain ⟨rfl, hb1⟩ := hq.no HA.out; clear hq hW)
    go_ret2
    exact OfPost.mkNo HN.out (HX.out.step hb1).below
  | some ta =>
    have HN := Lib.hid (show ofF (.mk ⟨10, neg, abs, name, exp, rel, truth, all⟩ [a]) = some (.not ta) from (by unfold ofF; rw [if_pos (by simp [kidsF]), if_neg (by simp)]; unfold ofFs ofFs; rw [ha]; rfl))
    have HA := Lib.hid ha
    have HNA := Lib.hid (ofF_ne ha)
    clear hx hkW hX hTa hsa hS hSb ha ih
    go_enter Tryd.func24, Tryd.ntmps24
    go_wp2_with (first
      | (go_at_call 9; (with_reducible refine HC1.out.mono ?_); intro e w1 hq; obtain ⟨va, rfl, hva, hb1⟩ := hq.yes HA.out; obtain ⟨u1, z1, rfl⟩ := hva.iface HNA.out; have HVA := Lib.hid hva; clear hq hva hW; obtain ⟨p0, -, -, p3, -, -, -, p7, -⟩ := (HX.out.step hb1).c9; have HX1 := Lib.hid (HX.out.step hb1); clear hb1 b0 b1 b2 b3 b4 b5 b6 b7 b8 g0 g1 g2 g3 g4 g5 g6 g7 g8))
    go_ret2
    have hs1 := HX.out.below.size
    refine OfPost.mkYes HN.out ?_ HX1.out.below
    exact ⟨_, rfl, FoAt.more (fun b hb => ⟨Nat.le_trans hs1 hb.1, hb.2⟩) _ _ HVA.out⟩


set_option maxRecDepth 100000 in
set_option maxHeartbeats 4000000 in
theorem unaryOf_quant (neg : Bool) (abs : List Nat) (name : ByteArray) (exp rel : Int) (truth all : Bool) (a : Tr) (ih : OfFIH [a]) (hnm : name.size ≤ 40) (A1 : Option Addr) (n1 c1 c2 b o : Nat) (x0 x1 x2 x3 x4 x5 x6 x7 x8 : Value) (S : Nat → Prop) (w : World) (hS : ∀ b, S b → b < w.heap.size) (hc : 1 ≤ c2)
    (hSb : S b) (hTa : TreeAt w S a [x0, x1, x2, x3, x4, x5, x6, x7, x8]) (hsa : Sm a)
    (hX : ∀ w' : World, (∀ p : Addr, S p.block → w'.cell? p = w.cell? p) → ∀ j u, [x0, x1, x2, x3, x4, x5, x6, x7, x8][j]? = some u → w'.cell? ⟨b, o + j, none⟩ = some u) :
    Calls Tryd.prog 24 #[.agg #[.int .i64 15, .bool neg, .slice A1 n1 c1, .string name, .int .i64 exp, .int .i64 rel, .bool truth, .bool all, .slice (some ⟨b, o, none⟩) 1 c2]] w (OfPost (.mk ⟨15, neg, abs, name, exp, rel, truth, all⟩ [a]) w) := by
  obtain ⟨W, hW⟩ : ∃ W, w.alloc (.cells #[.int .i64 15, .bool neg, .slice A1 n1 c1, .string name, .int .i64 exp, .int .i64 rel, .bool truth, .bool all, .slice (some ⟨b, o, none⟩) 1 c2] TT) = W := ⟨_, rfl⟩
  have hx : Box w W w.heap.size #[.int .i64 15, .bool neg, .slice A1 n1 c1, .string name, .int .i64 exp, .int .i64 rel, .bool truth, .bool all, .slice (some ⟨b, o, none⟩) 1 c2] TT := by rw [← hW]; exact Box.new w _ _
  have hkW : ∀ p : Addr, S p.block → W.cell? p = w.cell? p := fun p hp => hx.below.cell (hS _ hp)
  obtain ⟨b0, b1, b2, b3, b4, b5, b6, b7, b8⟩ := hx.c9
  obtain ⟨g0, g1, g2, g3, g4, g5, g6, g7, g8⟩ := nine_at (hX W hkW)
  have HC1 := Lib.hid (ih a (by simp) [x0, x1, x2, x3, x4, x5, x6, x7, x8] S W (fun b hb => Nat.lt_of_lt_of_le (hS b hb) hx.below.size) (hTa.below hS hx.below) hsa)
  have HX := Lib.hid hx
  cases ha : ofF a with
  | none =>
    have HN := Lib.hid (show ofF (.mk ⟨15, neg, abs, name, exp, rel, truth, all⟩ [a]) = none from (by unfold ofF; rw [if_pos (by simp [kidsF]), if_neg (by simp)]; unfold ofFs; rw [ha]; rfl))
    have HA := Lib.hid ha
    clear hx hkW hX hTa hsa hS hSb ha ih
    go_enter Tryd.func24, Tryd.ntmps24
    go_wp2_with (go_at_call 9; refine HC1.out.mono ?_; intro e w1 hq; obtain ⟨rfl, hb1⟩ := hq.no HA.out; clear hq hW)
    go_ret2
    exact OfPost.mkNo HN.out (HX.out.step hb1).below
  | some ta =>
    have HN := Lib.hid (show ofF (.mk ⟨15, neg, abs, name, exp, rel, truth, all⟩ [a]) = some (.quant all name ta) from (by unfold ofF; rw [if_pos (by simp [kidsF]), if_neg (by simp)]; unfold ofFs ofFs; rw [ha]; rfl))
    have HA := Lib.hid ha
    have HNA := Lib.hid (ofF_ne ha)
    clear hx hkW hX hTa hsa hS hSb ha ih
    go_enter Tryd.func24, Tryd.ntmps24
    go_wp2_with (first
      | (go_at_call 9; (with_reducible refine HC1.out.mono ?_); intro e w1 hq; obtain ⟨va, rfl, hva, hb1⟩ := hq.yes HA.out; obtain ⟨u1, z1, rfl⟩ := hva.iface HNA.out; have HVA := Lib.hid hva; clear hq hva hW; obtain ⟨p0, -, -, p3, -, -, -, p7, -⟩ := (HX.out.step hb1).c9; have HX1 := Lib.hid (HX.out.step hb1); clear hb1 b0 b1 b2 b3 b4 b5 b6 b7 b8 g0 g1 g2 g3 g4 g5 g6 g7 g8))
    go_ret2
    have hs1 := HX.out.below.size
    refine OfPost.mkYes HN.out ?_ HX1.out.below
    exact ⟨_, rfl, by omega, FoAt.more (fun b hb => ⟨Nat.le_trans hs1 hb.1, hb.2⟩) _ _ HVA.out⟩


set_option maxRecDepth 100000 in
theorem atomOf_bad (k : Int) (neg : Bool) (abs : List Nat) (name : ByteArray) (exp rel : Int) (truth all : Bool) (K : Nat) (hK : K ≠ 2) (A1 : Option Addr) (n1 c1 : Nat) (A2 : Option Addr) (c2 : Nat) (w : World) :
    Calls Tryd.prog 23 #[.agg #[.int .i64 k, .bool neg, .slice A1 n1 c1, .string name, .int .i64 exp, .int .i64 rel, .bool truth, .bool all, .slice A2 K c2]] w fun e w' => e = .returned (.tuple #[.nilIface, .int .i64 9]) ∧ Below w.heap.size w w' := by
  have hd : ((K : Int) != 2) = true := by simp; omega
  clear hK
  go_enter Tryd.func23, Tryd.ntmps23
  go_wp2
  go_ret2
  exact ⟨rfl, (Below.refl _ w).alloc (Nat.le_refl _) _⟩


set_option maxRecDepth 100000 in
theorem unaryOf_bad (k : Int) (neg : Bool) (abs : List Nat) (name : ByteArray) (exp rel : Int) (truth all : Bool) (K : Nat) (hK : K ≠ 1) (A1 : Option Addr) (n1 c1 : Nat) (A2 : Option Addr) (c2 : Nat) (w : World) :
    Calls Tryd.prog 24 #[.agg #[.int .i64 k, .bool neg, .slice A1 n1 c1, .string name, .int .i64 exp, .int .i64 rel, .bool truth, .bool all, .slice A2 K c2]] w fun e w' => e = .returned (.tuple #[.nilIface, .int .i64 9]) ∧ Below w.heap.size w w' := by
  have hd : ((K : Int) != 1) = true := by simp; omega
  clear hK
  go_enter Tryd.func24, Tryd.ntmps24
  go_wp2
  go_ret2
  exact ⟨rfl, (Below.refl _ w).alloc (Nat.le_refl _) _⟩


set_option maxRecDepth 100000 in
theorem binaryOf_bad (k : Int) (neg : Bool) (abs : List Nat) (name : ByteArray) (exp rel : Int) (truth all : Bool) (K : Nat) (hK : K ≠ 2) (A1 : Option Addr) (n1 c1 : Nat) (A2 : Option Addr) (c2 : Nat) (w : World) :
    Calls Tryd.prog 25 #[.agg #[.int .i64 k, .bool neg, .slice A1 n1 c1, .string name, .int .i64 exp, .int .i64 rel, .bool truth, .bool all, .slice A2 K c2]] w fun e w' => e = .returned (.tuple #[.nilIface, .int .i64 9]) ∧ Below w.heap.size w w' := by
  have hd : ((K : Int) != 2) = true := by simp; omega
  clear hK
  go_enter Tryd.func25, Tryd.ntmps25
  go_wp2
  go_ret2
  exact ⟨rfl, (Below.refl _ w).alloc (Nat.le_refl _) _⟩


set_option maxRecDepth 100000 in
theorem atomOf_rel (k : Int) (neg : Bool) (abs : List Nat) (name : ByteArray) (exp rel : Int) (truth all : Bool) (hr : rel < 1 ∨ 6 < rel) (A1 : Option Addr) (n1 c1 : Nat) (A2 : Option Addr) (c2 : Nat) (w : World) :
    Calls Tryd.prog 23 #[.agg #[.int .i64 k, .bool neg, .slice A1 n1 c1, .string name, .int .i64 exp, .int .i64 rel, .bool truth, .bool all, .slice A2 2 c2]] w fun e w' => e = .returned (.tuple #[.nilIface, .int .i64 9]) ∧ Below w.heap.size w w' := by
  by_cases h1 : rel < 1
  · go_enter Tryd.func23, Tryd.ntmps23
    go_wp2
    go_ret2
    exact ⟨rfl, (Below.refl _ w).alloc (Nat.le_refl _) _⟩
  · have h2 : 6 < rel := by omega
    clear hr
    go_enter Tryd.func23, Tryd.ntmps23
    go_wp2
    go_ret2
    exact ⟨rfl, (Below.refl _ w).alloc (Nat.le_refl _) _⟩


set_option maxRecDepth 100000 in
set_option maxHeartbeats 2000000 in
theorem of_via_9 (neg : Bool) (abs : List Nat) (name : ByteArray) (exp rel : Int) (truth all : Bool) (ks : List Tr) (A1 : Option Addr) (n1 c1 : Nat) (A2 : Option Addr) (K c2 : Nat) (w : World)
    (hC : Calls Tryd.prog 23 #[.agg #[.int .i64 9, .bool neg, .slice A1 n1 c1, .string name, .int .i64 exp, .int .i64 rel, .bool truth, .bool all, .slice A2 K c2]] (w.alloc (.cells #[.int .i64 9, .bool neg, .slice A1 n1 c1, .string name, .int .i64 exp, .int .i64 rel, .bool truth, .bool all, .slice A2 K c2] TT)) (OfPost (.mk ⟨9, neg, abs, name, exp, rel, truth, all⟩ ks) (w.alloc (.cells #[.int .i64 9, .bool neg, .slice A1 n1 c1, .string name, .int .i64 exp, .int .i64 rel, .bool truth, .bool all, .slice A2 K c2] TT)))) :
    Calls Tryd.prog 9 #[.agg #[.int .i64 9, .bool neg, .slice A1 n1 c1, .string name, .int .i64 exp, .int .i64 rel, .bool truth, .bool all, .slice A2 K c2]] w (OfPost (.mk ⟨9, neg, abs, name, exp, rel, truth, all⟩ ks) w) := by
  have HC := Lib.hid hC
  have hb : Below w.heap.size w (w.alloc (.cells #[.int .i64 9, .bool neg, .slice A1 n1 c1, .string name, .int .i64 exp, .int .i64 rel, .bool truth, .bool all, .slice A2 K c2] TT)) := (Below.refl _ w).alloc (Nat.le_refl _) _
  have HB := Lib.hid hb
  clear hC hb
  cases hof : ofF (.mk ⟨9, neg, abs, name, exp, rel, truth, all⟩ ks) with
  | none =>
    have HO := Lib.hid hof
    clear hof
    go_enter Tryd.func9, Tryd.ntmps9
    go_wp2_with (go_at_call 23; refine HC.out.mono ?_; intro e w1 hq; obtain ⟨rfl, hb1⟩ := hq.no HO.out; clear hq)
    go_ret2
    exact OfPost.mkNo HO.out (HB.out.trans (hb1.mono HB.out.size))
  | some f =>
    have HO := Lib.hid hof
    have HNE := Lib.hid (ofF_ne hof)
    clear hof
    go_enter Tryd.func9, Tryd.ntmps9
    go_wp2_with (go_at_call 23; refine HC.out.mono ?_; intro e w1 hq; obtain ⟨v, rfl, hv, hb1⟩ := hq.yes HO.out; have HV := Lib.hid hv; clear hq hv)
    go_ret2
    exact OfPost.mkYes HO.out (FoAt.more (fun b hb => ⟨Nat.le_trans HB.out.size hb.1, hb.2⟩) _ _ HV.out) (HB.out.trans (hb1.mono HB.out.size))


set_option maxRecDepth 100000 in
set_option maxHeartbeats 2000000 in
theorem of_via_10 (neg : Bool) (abs : List Nat) (name : ByteArray) (exp rel : Int) (truth all : Bool) (ks : List Tr) (A1 : Option Addr) (n1 c1 : Nat) (A2 : Option Addr) (K c2 : Nat) (w : World)
    (hC : Calls Tryd.prog 24 #[.agg #[.int .i64 10, .bool neg, .slice A1 n1 c1, .string name, .int .i64 exp, .int .i64 rel, .bool truth, .bool all, .slice A2 K c2]] (w.alloc (.cells #[.int .i64 10, .bool neg, .slice A1 n1 c1, .string name, .int .i64 exp, .int .i64 rel, .bool truth, .bool all, .slice A2 K c2] TT)) (OfPost (.mk ⟨10, neg, abs, name, exp, rel, truth, all⟩ ks) (w.alloc (.cells #[.int .i64 10, .bool neg, .slice A1 n1 c1, .string name, .int .i64 exp, .int .i64 rel, .bool truth, .bool all, .slice A2 K c2] TT)))) :
    Calls Tryd.prog 9 #[.agg #[.int .i64 10, .bool neg, .slice A1 n1 c1, .string name, .int .i64 exp, .int .i64 rel, .bool truth, .bool all, .slice A2 K c2]] w (OfPost (.mk ⟨10, neg, abs, name, exp, rel, truth, all⟩ ks) w) := by
  have HC := Lib.hid hC
  have hb : Below w.heap.size w (w.alloc (.cells #[.int .i64 10, .bool neg, .slice A1 n1 c1, .string name, .int .i64 exp, .int .i64 rel, .bool truth, .bool all, .slice A2 K c2] TT)) := (Below.refl _ w).alloc (Nat.le_refl _) _
  have HB := Lib.hid hb
  clear hC hb
  cases hof : ofF (.mk ⟨10, neg, abs, name, exp, rel, truth, all⟩ ks) with
  | none =>
    have HO := Lib.hid hof
    clear hof
    go_enter Tryd.func9, Tryd.ntmps9
    go_wp2_with (go_at_call 24; refine HC.out.mono ?_; intro e w1 hq; obtain ⟨rfl, hb1⟩ := hq.no HO.out; clear hq)
    go_ret2
    exact OfPost.mkNo HO.out (HB.out.trans (hb1.mono HB.out.size))
  | some f =>
    have HO := Lib.hid hof
    have HNE := Lib.hid (ofF_ne hof)
    clear hof
    go_enter Tryd.func9, Tryd.ntmps9
    go_wp2_with (go_at_call 24; refine HC.out.mono ?_; intro e w1 hq; obtain ⟨v, rfl, hv, hb1⟩ := hq.yes HO.out; have HV := Lib.hid hv; clear hq hv)
    go_ret2
    exact OfPost.mkYes HO.out (FoAt.more (fun b hb => ⟨Nat.le_trans HB.out.size hb.1, hb.2⟩) _ _ HV.out) (HB.out.trans (hb1.mono HB.out.size))


set_option maxRecDepth 100000 in
set_option maxHeartbeats 2000000 in
theorem of_via_15 (neg : Bool) (abs : List Nat) (name : ByteArray) (exp rel : Int) (truth all : Bool) (ks : List Tr) (A1 : Option Addr) (n1 c1 : Nat) (A2 : Option Addr) (K c2 : Nat) (w : World)
    (hC : Calls Tryd.prog 24 #[.agg #[.int .i64 15, .bool neg, .slice A1 n1 c1, .string name, .int .i64 exp, .int .i64 rel, .bool truth, .bool all, .slice A2 K c2]] (w.alloc (.cells #[.int .i64 15, .bool neg, .slice A1 n1 c1, .string name, .int .i64 exp, .int .i64 rel, .bool truth, .bool all, .slice A2 K c2] TT)) (OfPost (.mk ⟨15, neg, abs, name, exp, rel, truth, all⟩ ks) (w.alloc (.cells #[.int .i64 15, .bool neg, .slice A1 n1 c1, .string name, .int .i64 exp, .int .i64 rel, .bool truth, .bool all, .slice A2 K c2] TT)))) :
    Calls Tryd.prog 9 #[.agg #[.int .i64 15, .bool neg, .slice A1 n1 c1, .string name, .int .i64 exp, .int .i64 rel, .bool truth, .bool all, .slice A2 K c2]] w (OfPost (.mk ⟨15, neg, abs, name, exp, rel, truth, all⟩ ks) w) := by
  have HC := Lib.hid hC
  have hb : Below w.heap.size w (w.alloc (.cells #[.int .i64 15, .bool neg, .slice A1 n1 c1, .string name, .int .i64 exp, .int .i64 rel, .bool truth, .bool all, .slice A2 K c2] TT)) := (Below.refl _ w).alloc (Nat.le_refl _) _
  have HB := Lib.hid hb
  clear hC hb
  cases hof : ofF (.mk ⟨15, neg, abs, name, exp, rel, truth, all⟩ ks) with
  | none =>
    have HO := Lib.hid hof
    clear hof
    go_enter Tryd.func9, Tryd.ntmps9
    go_wp2_with (go_at_call 24; refine HC.out.mono ?_; intro e w1 hq; obtain ⟨rfl, hb1⟩ := hq.no HO.out; clear hq)
    go_ret2
    exact OfPost.mkNo HO.out (HB.out.trans (hb1.mono HB.out.size))
  | some f =>
    have HO := Lib.hid hof
    have HNE := Lib.hid (ofF_ne hof)
    clear hof
    go_enter Tryd.func9, Tryd.ntmps9
    go_wp2_with (go_at_call 24; refine HC.out.mono ?_; intro e w1 hq; obtain ⟨v, rfl, hv, hb1⟩ := hq.yes HO.out; have HV := Lib.hid hv; clear hq hv)
    go_ret2
    exact OfPost.mkYes HO.out (FoAt.more (fun b hb => ⟨Nat.le_trans HB.out.size hb.1, hb.2⟩) _ _ HV.out) (HB.out.trans (hb1.mono HB.out.size))


set_option maxRecDepth 100000 in
set_option maxHeartbeats 2000000 in
theorem of_via_11 (neg : Bool) (abs : List Nat) (name : ByteArray) (exp rel : Int) (truth all : Bool) (ks : List Tr) (A1 : Option Addr) (n1 c1 : Nat) (A2 : Option Addr) (K c2 : Nat) (w : World)
    (hC : Calls Tryd.prog 25 #[.agg #[.int .i64 11, .bool neg, .slice A1 n1 c1, .string name, .int .i64 exp, .int .i64 rel, .bool truth, .bool all, .slice A2 K c2]] (w.alloc (.cells #[.int .i64 11, .bool neg, .slice A1 n1 c1, .string name, .int .i64 exp, .int .i64 rel, .bool truth, .bool all, .slice A2 K c2] TT)) (OfPost (.mk ⟨11, neg, abs, name, exp, rel, truth, all⟩ ks) (w.alloc (.cells #[.int .i64 11, .bool neg, .slice A1 n1 c1, .string name, .int .i64 exp, .int .i64 rel, .bool truth, .bool all, .slice A2 K c2] TT)))) :
    Calls Tryd.prog 9 #[.agg #[.int .i64 11, .bool neg, .slice A1 n1 c1, .string name, .int .i64 exp, .int .i64 rel, .bool truth, .bool all, .slice A2 K c2]] w (OfPost (.mk ⟨11, neg, abs, name, exp, rel, truth, all⟩ ks) w) := by
  have HC := Lib.hid hC
  have hb : Below w.heap.size w (w.alloc (.cells #[.int .i64 11, .bool neg, .slice A1 n1 c1, .string name, .int .i64 exp, .int .i64 rel, .bool truth, .bool all, .slice A2 K c2] TT)) := (Below.refl _ w).alloc (Nat.le_refl _) _
  have HB := Lib.hid hb
  clear hC hb
  cases hof : ofF (.mk ⟨11, neg, abs, name, exp, rel, truth, all⟩ ks) with
  | none =>
    have HO := Lib.hid hof
    clear hof
    go_enter Tryd.func9, Tryd.ntmps9
    go_wp2_with (go_at_call 25; refine HC.out.mono ?_; intro e w1 hq; obtain ⟨rfl, hb1⟩ := hq.no HO.out; clear hq)
    go_ret2
    exact OfPost.mkNo HO.out (HB.out.trans (hb1.mono HB.out.size))
  | some f =>
    have HO := Lib.hid hof
    have HNE := Lib.hid (ofF_ne hof)
    clear hof
    go_enter Tryd.func9, Tryd.ntmps9
    go_wp2_with (go_at_call 25; refine HC.out.mono ?_; intro e w1 hq; obtain ⟨v, rfl, hv, hb1⟩ := hq.yes HO.out; have HV := Lib.hid hv; clear hq hv)
    go_ret2
    exact OfPost.mkYes HO.out (FoAt.more (fun b hb => ⟨Nat.le_trans HB.out.size hb.1, hb.2⟩) _ _ HV.out) (HB.out.trans (hb1.mono HB.out.size))


set_option maxRecDepth 100000 in
set_option maxHeartbeats 2000000 in
theorem of_via_12 (neg : Bool) (abs : List Nat) (name : ByteArray) (exp rel : Int) (truth all : Bool) (ks : List Tr) (A1 : Option Addr) (n1 c1 : Nat) (A2 : Option Addr) (K c2 : Nat) (w : World)
    (hC : Calls Tryd.prog 25 #[.agg #[.int .i64 12, .bool neg, .slice A1 n1 c1, .string name, .int .i64 exp, .int .i64 rel, .bool truth, .bool all, .slice A2 K c2]] (w.alloc (.cells #[.int .i64 12, .bool neg, .slice A1 n1 c1, .string name, .int .i64 exp, .int .i64 rel, .bool truth, .bool all, .slice A2 K c2] TT)) (OfPost (.mk ⟨12, neg, abs, name, exp, rel, truth, all⟩ ks) (w.alloc (.cells #[.int .i64 12, .bool neg, .slice A1 n1 c1, .string name, .int .i64 exp, .int .i64 rel, .bool truth, .bool all, .slice A2 K c2] TT)))) :
    Calls Tryd.prog 9 #[.agg #[.int .i64 12, .bool neg, .slice A1 n1 c1, .string name, .int .i64 exp, .int .i64 rel, .bool truth, .bool all, .slice A2 K c2]] w (OfPost (.mk ⟨12, neg, abs, name, exp, rel, truth, all⟩ ks) w) := by
  have HC := Lib.hid hC
  have hb : Below w.heap.size w (w.alloc (.cells #[.int .i64 12, .bool neg, .slice A1 n1 c1, .string name, .int .i64 exp, .int .i64 rel, .bool truth, .bool all, .slice A2 K c2] TT)) := (Below.refl _ w).alloc (Nat.le_refl _) _
  have HB := Lib.hid hb
  clear hC hb
  cases hof : ofF (.mk ⟨12, neg, abs, name, exp, rel, truth, all⟩ ks) with
  | none =>
    have HO := Lib.hid hof
    clear hof
    go_enter Tryd.func9, Tryd.ntmps9
    go_wp2_with (go_at_call 25; refine HC.out.mono ?_; intro e w1 hq; obtain ⟨rfl, hb1⟩ := hq.no HO.out; clear hq)
    go_ret2
    exact OfPost.mkNo HO.out (HB.out.trans (hb1.mono HB.out.size))
  | some f =>
    have HO := Lib.hid hof
    have HNE := Lib.hid (ofF_ne hof)
    clear hof
    go_enter Tryd.func9, Tryd.ntmps9
    go_wp2_with (go_at_call 25; refine HC.out.mono ?_; intro e w1 hq; obtain ⟨v, rfl, hv, hb1⟩ := hq.yes HO.out; have HV := Lib.hid hv; clear hq hv)
    go_ret2
    exact OfPost.mkYes HO.out (FoAt.more (fun b hb => ⟨Nat.le_trans HB.out.size hb.1, hb.2⟩) _ _ HV.out) (HB.out.trans (hb1.mono HB.out.size))


set_option maxRecDepth 100000 in
set_option maxHeartbeats 2000000 in
theorem of_via_13 (neg : Bool) (abs : List Nat) (name : ByteArray) (exp rel : Int) (truth all : Bool) (ks : List Tr) (A1 : Option Addr) (n1 c1 : Nat) (A2 : Option Addr) (K c2 : Nat) (w : World)
    (hC : Calls Tryd.prog 25 #[.agg #[.int .i64 13, .bool neg, .slice A1 n1 c1, .string name, .int .i64 exp, .int .i64 rel, .bool truth, .bool all, .slice A2 K c2]] (w.alloc (.cells #[.int .i64 13, .bool neg, .slice A1 n1 c1, .string name, .int .i64 exp, .int .i64 rel, .bool truth, .bool all, .slice A2 K c2] TT)) (OfPost (.mk ⟨13, neg, abs, name, exp, rel, truth, all⟩ ks) (w.alloc (.cells #[.int .i64 13, .bool neg, .slice A1 n1 c1, .string name, .int .i64 exp, .int .i64 rel, .bool truth, .bool all, .slice A2 K c2] TT)))) :
    Calls Tryd.prog 9 #[.agg #[.int .i64 13, .bool neg, .slice A1 n1 c1, .string name, .int .i64 exp, .int .i64 rel, .bool truth, .bool all, .slice A2 K c2]] w (OfPost (.mk ⟨13, neg, abs, name, exp, rel, truth, all⟩ ks) w) := by
  have HC := Lib.hid hC
  have hb : Below w.heap.size w (w.alloc (.cells #[.int .i64 13, .bool neg, .slice A1 n1 c1, .string name, .int .i64 exp, .int .i64 rel, .bool truth, .bool all, .slice A2 K c2] TT)) := (Below.refl _ w).alloc (Nat.le_refl _) _
  have HB := Lib.hid hb
  clear hC hb
  cases hof : ofF (.mk ⟨13, neg, abs, name, exp, rel, truth, all⟩ ks) with
  | none =>
    have HO := Lib.hid hof
    clear hof
    go_enter Tryd.func9, Tryd.ntmps9
    go_wp2_with (go_at_call 25; refine HC.out.mono ?_; intro e w1 hq; obtain ⟨rfl, hb1⟩ := hq.no HO.out; clear hq)
    go_ret2
    exact OfPost.mkNo HO.out (HB.out.trans (hb1.mono HB.out.size))
  | some f =>
    have HO := Lib.hid hof
    have HNE := Lib.hid (ofF_ne hof)
    clear hof
    go_enter Tryd.func9, Tryd.ntmps9
    go_wp2_with (go_at_call 25; refine HC.out.mono ?_; intro e w1 hq; obtain ⟨v, rfl, hv, hb1⟩ := hq.yes HO.out; have HV := Lib.hid hv; clear hq hv)
    go_ret2
    exact OfPost.mkYes HO.out (FoAt.more (fun b hb => ⟨Nat.le_trans HB.out.size hb.1, hb.2⟩) _ _ HV.out) (HB.out.trans (hb1.mono HB.out.size))


set_option maxRecDepth 100000 in
set_option maxHeartbeats 2000000 in
theorem of_via_14 (neg : Bool) (abs : List Nat) (name : ByteArray) (exp rel : Int) (truth all : Bool) (ks : List Tr) (A1 : Option Addr) (n1 c1 : Nat) (A2 : Option Addr) (K c2 : Nat) (w : World)
    (hC : Calls Tryd.prog 25 #[.agg #[.int .i64 14, .bool neg, .slice A1 n1 c1, .string name, .int .i64 exp, .int .i64 rel, .bool truth, .bool all, .slice A2 K c2]] (w.alloc (.cells #[.int .i64 14, .bool neg, .slice A1 n1 c1, .string name, .int .i64 exp, .int .i64 rel, .bool truth, .bool all, .slice A2 K c2] TT)) (OfPost (.mk ⟨14, neg, abs, name, exp, rel, truth, all⟩ ks) (w.alloc (.cells #[.int .i64 14, .bool neg, .slice A1 n1 c1, .string name, .int .i64 exp, .int .i64 rel, .bool truth, .bool all, .slice A2 K c2] TT)))) :
    Calls Tryd.prog 9 #[.agg #[.int .i64 14, .bool neg, .slice A1 n1 c1, .string name, .int .i64 exp, .int .i64 rel, .bool truth, .bool all, .slice A2 K c2]] w (OfPost (.mk ⟨14, neg, abs, name, exp, rel, truth, all⟩ ks) w) := by
  have HC := Lib.hid hC
  have hb : Below w.heap.size w (w.alloc (.cells #[.int .i64 14, .bool neg, .slice A1 n1 c1, .string name, .int .i64 exp, .int .i64 rel, .bool truth, .bool all, .slice A2 K c2] TT)) := (Below.refl _ w).alloc (Nat.le_refl _) _
  have HB := Lib.hid hb
  clear hC hb
  cases hof : ofF (.mk ⟨14, neg, abs, name, exp, rel, truth, all⟩ ks) with
  | none =>
    have HO := Lib.hid hof
    clear hof
    go_enter Tryd.func9, Tryd.ntmps9
    go_wp2_with (go_at_call 25; refine HC.out.mono ?_; intro e w1 hq; obtain ⟨rfl, hb1⟩ := hq.no HO.out; clear hq)
    go_ret2
    exact OfPost.mkNo HO.out (HB.out.trans (hb1.mono HB.out.size))
  | some f =>
    have HO := Lib.hid hof
    have HNE := Lib.hid (ofF_ne hof)
    clear hof
    go_enter Tryd.func9, Tryd.ntmps9
    go_wp2_with (go_at_call 25; refine HC.out.mono ?_; intro e w1 hq; obtain ⟨v, rfl, hv, hb1⟩ := hq.yes HO.out; have HV := Lib.hid hv; clear hq hv)
    go_ret2
    exact OfPost.mkYes HO.out (FoAt.more (fun b hb => ⟨Nat.le_trans HB.out.size hb.1, hb.2⟩) _ _ HV.out) (HB.out.trans (hb1.mono HB.out.size))


set_option maxRecDepth 100000 in
theorem of_truth (neg : Bool) (abs : List Nat) (name : ByteArray) (exp rel : Int) (truth all : Bool) (A1 : Option Addr) (n1 c1 : Nat) (A2 : Option Addr) (c2 : Nat) (w : World) :
    Calls Tryd.prog 9 #[.agg #[.int .i64 8, .bool neg, .slice A1 n1 c1, .string name, .int .i64 exp, .int .i64 rel, .bool truth, .bool all, .slice A2 0 c2]] w (OfPost (.mk ⟨8, neg, abs, name, exp, rel, truth, all⟩ []) w) := by
  have HN := Lib.hid (show ofF (.mk ⟨8, neg, abs, name, exp, rel, truth, all⟩ []) = some (.truth truth) from (by unfold ofF; rw [if_pos (by simp [kidsF]), if_neg (by simp)]; unfold ofFs; rfl))
  go_enter Tryd.func9, Tryd.ntmps9
  go_wp2
  go_ret2
  exact OfPost.mkYes HN.out rfl ((Below.refl _ w).alloc (Nat.le_refl _) _)
set_option maxRecDepth 100000 in
theorem of_truth_bad (neg : Bool) (abs : List Nat) (name : ByteArray) (exp rel : Int) (truth all : Bool) (A1 : Option Addr) (n1 c1 : Nat) (A2 : Option Addr) (K c2 : Nat) (hK : K ≠ 0) (w : World) :
    Calls Tryd.prog 9 #[.agg #[.int .i64 8, .bool neg, .slice A1 n1 c1, .string name, .int .i64 exp, .int .i64 rel, .bool truth, .bool all, .slice A2 K c2]] w fun e w' => e = .returned (.tuple #[.nilIface, .int .i64 9]) ∧ Below w.heap.size w w' := by
  have hd : ((K : Int) == 0) = false := by simp; omega
  clear hK
  go_enter Tryd.func9, Tryd.ntmps9
  go_wp2
  go_ret2
  exact ⟨rfl, (Below.refl _ w).alloc (Nat.le_refl _) _⟩
set_option maxRecDepth 100000 in
set_option maxHeartbeats 2000000 in
theorem of_kind_bad (k : Int) (neg : Bool) (abs : List Nat) (name : ByteArray) (exp rel : Int) (truth all : Bool) (A1 : Option Addr) (n1 c1 : Nat) (A2 : Option Addr) (K c2 : Nat) (hk : k < 8 ∨ 15 < k) (w : World) :
    Calls Tryd.prog 9 #[.agg #[.int .i64 k, .bool neg, .slice A1 n1 c1, .string name, .int .i64 exp, .int .i64 rel, .bool truth, .bool all, .slice A2 K c2]] w fun e w' => e = .returned (.tuple #[.nilIface, .int .i64 9]) ∧ Below w.heap.size w w' := by
  have h8 : (k == 8) = false := by simp; omega
  have h9 : (k == 9) = false := by simp; omega
  have h10 : (k == 10) = false := by simp; omega
  have h11 : (k == 11) = false := by simp; omega
  have h12 : (k == 12) = false := by simp; omega
  have h13 : (k == 13) = false := by simp; omega
  have h14 : (k == 14) = false := by simp; omega
  have h15 : (k == 15) = false := by simp; omega
  clear hk
  go_enter Tryd.func9, Tryd.ntmps9
  go_wp2
  go_ret2
  exact ⟨rfl, (Below.refl _ w).alloc (Nat.le_refl _) _⟩
theorem OfPost.bad {t : Tr} {w : World} {f : FuncId} {args : Array Value} (hn : ofF t = none) (h : Calls Tryd.prog f args w fun e w' => e = .returned (.tuple #[.nilIface, .int .i64 9]) ∧ Below w.heap.size w w') : Calls Tryd.prog f args w (OfPost t w) :=
  h.mono fun e w' hq => by obtain ⟨rfl, hb⟩ := hq; exact OfPost.mkNo hn hb
theorem ofF_len {h : Hd} {ks : List Tr} (hk : kidsF h.k ≠ some ks.length) : ofF (.mk h ks) = none := by unfold ofF; rw [if_neg (fun hh => hk hh.1)]


set_option maxRecDepth 100000 in
set_option maxHeartbeats 4000000 in
theorem of_any : ∀ (t : Tr) (cs : List Value) (S : Nat → Prop) (w : World), (∀ b, S b → b < w.heap.size) → TreeAt w S t cs → Sm t →
    Calls Tryd.prog 9 #[.agg cs.toArray] w (OfPost t w) := by
  refine Tr.ind fun h ks ih => ?_
  intro cs S w hS hT hsm
  obtain ⟨A1, n1, c1, A2, K, c2, xs, rfl, hK, hKc, hK64, hn1', hnm, hab, hks, htr⟩ := hT.mkN
  unfold Sm at hsm
  obtain ⟨hs1, hs2, hsm⟩ := hsm
  have hbW : Below w.heap.size w (w.alloc (.cells (hdC h (.slice A1 n1 c1) (.slice A2 K c2)).toArray TT)) := (Below.refl _ w).alloc (Nat.le_refl _) _
  obtain ⟨k, neg, abs, name, exp, rel, truth, all⟩ := h
  unfold hdC at hbW ⊢
  simp only at hs1 hs2 hbW
  by_cases e8 : k = 8
  · subst e8
    by_cases hK0 : K = 0
    · subst hK0
      obtain rfl : ks = [] := List.eq_nil_of_length_eq_zero hK.symm
      exact of_truth neg abs name exp rel truth all A1 n1 c1 A2 c2 w
    · exact OfPost.bad (ofF_len (by simp [kidsF]; omega)) (of_truth_bad neg abs name exp rel truth all A1 n1 c1 A2 K c2 hK0 w)
  by_cases e9 : k = 9
  · subst e9
    by_cases hK2 : K = 2
    · subst hK2
      by_cases hr : rel < 1 ∨ 6 < rel
      · exact of_via_9 neg abs name exp rel truth all _ A1 n1 c1 _ _ c2 w (OfPost.bad (by unfold ofF; rw [if_neg (fun hh => hh.2 ⟨rfl, hr⟩)]) (atomOf_rel 9 neg abs name exp rel truth all hr A1 n1 c1 A2 c2 _))
      · obtain ⟨a, d, b, o, x0, x1, x2, x3, x4, x5, x6, x7, x8, y0, y1, y2, y3, y4, y5, y6, y7, y8, rfl, rfl, hSb, hTa, hTd, hX, hY⟩ := two_at hks htr hK
        unfold SmL SmL at hsm
        exact of_via_9 neg abs name exp rel truth all _ A1 n1 c1 _ _ c2 w (atomOf_two neg abs name exp rel truth all a d (by omega) A1 n1 c1 c2 b o x0 x1 x2 x3 x4 x5 x6 x7 x8 y0 y1 y2 y3 y4 y5 y6 y7 y8 S _ (fun b hb => Nat.lt_of_lt_of_le (hS b hb) hbW.size) hKc hSb (hTa.below hS hbW) (hTd.below hS hbW) hsm.1 hsm.2.1 (fun w' hw => hX w' (fun p hp => (hw p hp).trans (hbW.cell (hS _ hp)))) (fun w' hw => hY w' (fun p hp => (hw p hp).trans (hbW.cell (hS _ hp)))))
    · exact of_via_9 neg abs name exp rel truth all _ A1 n1 c1 _ _ c2 w (OfPost.bad (ofF_len (by simp [kidsF]; omega)) (atomOf_bad 9 neg abs name exp rel truth all K hK2 A1 n1 c1 A2 c2 _))
  by_cases e10 : k = 10
  · subst e10
    by_cases hK2 : K = 1
    · subst hK2
      obtain ⟨a, b, o, x0, x1, x2, x3, x4, x5, x6, x7, x8, rfl, rfl, hSb, hTa, hX⟩ := one_at hks htr hK
      unfold SmL at hsm
      exact of_via_10 neg abs name exp rel truth all _ A1 n1 c1 _ _ c2 w (unaryOf_not neg abs name exp rel truth all a ih A1 n1 c1 c2 b o x0 x1 x2 x3 x4 x5 x6 x7 x8 S _ (fun b hb => Nat.lt_of_lt_of_le (hS b hb) hbW.size) hKc hSb (hTa.below hS hbW) hsm.1 (fun w' hw => hX w' (fun p hp => (hw p hp).trans (hbW.cell (hS _ hp)))))
    · exact of_via_10 neg abs name exp rel truth all _ A1 n1 c1 _ _ c2 w (OfPost.bad (ofF_len (by simp [kidsF]; omega)) (unaryOf_bad 10 neg abs name exp rel truth all K hK2 A1 n1 c1 A2 c2 _))
  by_cases e15 : k = 15
  · subst e15
    by_cases hK2 : K = 1
    · subst hK2
      obtain ⟨a, b, o, x0, x1, x2, x3, x4, x5, x6, x7, x8, rfl, rfl, hSb, hTa, hX⟩ := one_at hks htr hK
      unfold SmL at hsm
      exact of_via_15 neg abs name exp rel truth all _ A1 n1 c1 _ _ c2 w (unaryOf_quant neg abs name exp rel truth all a ih hs2 A1 n1 c1 c2 b o x0 x1 x2 x3 x4 x5 x6 x7 x8 S _ (fun b hb => Nat.lt_of_lt_of_le (hS b hb) hbW.size) hKc hSb (hTa.below hS hbW) hsm.1 (fun w' hw => hX w' (fun p hp => (hw p hp).trans (hbW.cell (hS _ hp)))))
    · exact of_via_15 neg abs name exp rel truth all _ A1 n1 c1 _ _ c2 w (OfPost.bad (ofF_len (by simp [kidsF]; omega)) (unaryOf_bad 15 neg abs name exp rel truth all K hK2 A1 n1 c1 A2 c2 _))
  by_cases e11 : k = 11
  · subst e11
    by_cases hK2 : K = 2
    · subst hK2
      obtain ⟨a, d, b, o, x0, x1, x2, x3, x4, x5, x6, x7, x8, y0, y1, y2, y3, y4, y5, y6, y7, y8, rfl, rfl, hSb, hTa, hTd, hX, hY⟩ := two_at hks htr hK
      unfold SmL SmL at hsm
      skip
      exact of_via_11 neg abs name exp rel truth all _ A1 n1 c1 _ _ c2 w (binaryOf_and neg abs name exp rel truth all a d ih A1 n1 c1 c2 b o x0 x1 x2 x3 x4 x5 x6 x7 x8 y0 y1 y2 y3 y4 y5 y6 y7 y8 S _ (fun b hb => Nat.lt_of_lt_of_le (hS b hb) hbW.size) hKc hSb (hTa.below hS hbW) (hTd.below hS hbW) hsm.1 hsm.2.1 (fun w' hw => hX w' (fun p hp => (hw p hp).trans (hbW.cell (hS _ hp)))) (fun w' hw => hY w' (fun p hp => (hw p hp).trans (hbW.cell (hS _ hp)))))
    · exact of_via_11 neg abs name exp rel truth all _ A1 n1 c1 _ _ c2 w (OfPost.bad (ofF_len (by simp [kidsF]; omega)) (binaryOf_bad 11 neg abs name exp rel truth all K hK2 A1 n1 c1 A2 c2 _))
  by_cases e12 : k = 12
  · subst e12
    by_cases hK2 : K = 2
    · subst hK2
      obtain ⟨a, d, b, o, x0, x1, x2, x3, x4, x5, x6, x7, x8, y0, y1, y2, y3, y4, y5, y6, y7, y8, rfl, rfl, hSb, hTa, hTd, hX, hY⟩ := two_at hks htr hK
      unfold SmL SmL at hsm
      skip
      exact of_via_12 neg abs name exp rel truth all _ A1 n1 c1 _ _ c2 w (binaryOf_or neg abs name exp rel truth all a d ih A1 n1 c1 c2 b o x0 x1 x2 x3 x4 x5 x6 x7 x8 y0 y1 y2 y3 y4 y5 y6 y7 y8 S _ (fun b hb => Nat.lt_of_lt_of_le (hS b hb) hbW.size) hKc hSb (hTa.below hS hbW) (hTd.below hS hbW) hsm.1 hsm.2.1 (fun w' hw => hX w' (fun p hp => (hw p hp).trans (hbW.cell (hS _ hp)))) (fun w' hw => hY w' (fun p hp => (hw p hp).trans (hbW.cell (hS _ hp)))))
    · exact of_via_12 neg abs name exp rel truth all _ A1 n1 c1 _ _ c2 w (OfPost.bad (ofF_len (by simp [kidsF]; omega)) (binaryOf_bad 12 neg abs name exp rel truth all K hK2 A1 n1 c1 A2 c2 _))
  by_cases e13 : k = 13
  · subst e13
    by_cases hK2 : K = 2
    · subst hK2
      obtain ⟨a, d, b, o, x0, x1, x2, x3, x4, x5, x6, x7, x8, y0, y1, y2, y3, y4, y5, y6, y7, y8, rfl, rfl, hSb, hTa, hTd, hX, hY⟩ := two_at hks htr hK
      unfold SmL SmL at hsm
      skip
      exact of_via_13 neg abs name exp rel truth all _ A1 n1 c1 _ _ c2 w (binaryOf_implies neg abs name exp rel truth all a d ih A1 n1 c1 c2 b o x0 x1 x2 x3 x4 x5 x6 x7 x8 y0 y1 y2 y3 y4 y5 y6 y7 y8 S _ (fun b hb => Nat.lt_of_lt_of_le (hS b hb) hbW.size) hKc hSb (hTa.below hS hbW) (hTd.below hS hbW) hsm.1 hsm.2.1 (fun w' hw => hX w' (fun p hp => (hw p hp).trans (hbW.cell (hS _ hp)))) (fun w' hw => hY w' (fun p hp => (hw p hp).trans (hbW.cell (hS _ hp)))))
    · exact of_via_13 neg abs name exp rel truth all _ A1 n1 c1 _ _ c2 w (OfPost.bad (ofF_len (by simp [kidsF]; omega)) (binaryOf_bad 13 neg abs name exp rel truth all K hK2 A1 n1 c1 A2 c2 _))
  by_cases e14 : k = 14
  · subst e14
    by_cases hK2 : K = 2
    · subst hK2
      obtain ⟨a, d, b, o, x0, x1, x2, x3, x4, x5, x6, x7, x8, y0, y1, y2, y3, y4, y5, y6, y7, y8, rfl, rfl, hSb, hTa, hTd, hX, hY⟩ := two_at hks htr hK
      unfold SmL SmL at hsm
      skip
      exact of_via_14 neg abs name exp rel truth all _ A1 n1 c1 _ _ c2 w (binaryOf_iff neg abs name exp rel truth all a d ih A1 n1 c1 c2 b o x0 x1 x2 x3 x4 x5 x6 x7 x8 y0 y1 y2 y3 y4 y5 y6 y7 y8 S _ (fun b hb => Nat.lt_of_lt_of_le (hS b hb) hbW.size) hKc hSb (hTa.below hS hbW) (hTd.below hS hbW) hsm.1 hsm.2.1 (fun w' hw => hX w' (fun p hp => (hw p hp).trans (hbW.cell (hS _ hp)))) (fun w' hw => hY w' (fun p hp => (hw p hp).trans (hbW.cell (hS _ hp)))))
    · exact of_via_14 neg abs name exp rel truth all _ A1 n1 c1 _ _ c2 w (OfPost.bad (ofF_len (by simp [kidsF]; omega)) (binaryOf_bad 14 neg abs name exp rel truth all K hK2 A1 n1 c1 A2 c2 _))
  exact OfPost.bad (ofF_len (by simp only [kidsF]; rw [if_neg e8, if_neg (by omega), if_neg (by omega)]; simp)) (of_kind_bad k neg abs name exp rel truth all A1 n1 c1 A2 K c2 (by omega) w)

end Fm
end Go.Proofs.YtkjbfomokdjbnaaDoor
