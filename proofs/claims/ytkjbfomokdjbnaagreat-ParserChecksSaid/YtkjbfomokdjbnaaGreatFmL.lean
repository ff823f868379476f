/-
  The reference's room, kids, isTerm, Is.
-/
import Derived.Test.YtkjbfomokdjbnaaGreatFmI
import Derived.Deep.AppendLies
namespace Go.Proofs.YtkjbfomokdjbnaaGreat
open Go.RowKit
set_option linter.unusedSimpArgs false
set_option linter.unusedVariables false
namespace Fm

theorem ret_int {k : IntKind} {a b : Int} (h : a = b) : Ending.returned (.int k a) = .returned (.int k b) := by rw [h]
theorem ret_bool {a b : Bool} (h : a = b) : Ending.returned (.bool a) = .returned (.bool b) := by rw [h]
abbrev TT : TypeId := 53

mutual
def roomF : Tr → Int → Int → Int
  | .mk _ ks, n, d => if d = 0 then -1 else roomL ks (n - 1) (d - 1)
def roomL : List Tr → Int → Int → Int
  | [], n, _ => n
  | k :: ks, n, d => if n < 0 then -1 else roomL ks (roomF k n d) d
end
mutual
theorem roomF_le : ∀ (t : Tr) (n d : Int), 0 ≤ n → -1 ≤ roomF t n d ∧ roomF t n d ≤ n
  | .mk _ ks, n, d, h => by
    unfold roomF
    split
    · omega
    · have := roomL_le ks (n - 1) (d - 1) (by omega)
      omega
theorem roomL_le : ∀ (l : List Tr) (n d : Int), -1 ≤ n → -1 ≤ roomL l n d ∧ roomL l n d ≤ n
  | [], n, d, h => by unfold roomL; omega
  | k :: ks, n, d, h => by
    unfold roomL
    split
    · omega
    · have h1 := roomF_le k n d (by omega)
      have := roomL_le ks (roomF k n d) d h1.1
      omega
end

theorem roomL_neg (l : List Tr) (n d : Int) (hl : l ≠ []) (h : n < 0) : roomL l n d = -1 := by
  cases l with
  | nil => exact absurd rfl hl
  | cons k ks => unfold roomL; rw [if_pos h]
theorem roomL_cons (k : Tr) (ks : List Tr) (n d : Int) (h : 0 ≤ n) : roomL (k :: ks) n d = roomL ks (roomF k n d) d := by
  conv => lhs; unfold roomL
  rw [if_neg (by omega)]
theorem drop_at {α : Type} {l : List α} {i : Nat} {x : α} (h : l[i]? = some x) : l.drop i = x :: l.drop (i + 1) := by
  obtain ⟨hi, rfl⟩ := List.getElem?_eq_some_iff.1 h
  exact List.drop_eq_getElem_cons hi
theorem mem_at {α : Type} {l : List α} {i : Nat} {x : α} (h : l[i]? = some x) : x ∈ l := by
  obtain ⟨hi, rfl⟩ := List.getElem?_eq_some_iff.1 h
  exact List.getElem_mem hi

/-! ### kids, isTerm, Is -/
def kidsN (k : Int) : Int × Bool :=
  if k = 1 ∨ k = 2 ∨ k = 8 then (0, true) else if k = 6 ∨ k = 7 then (1, true) else if k = 3 ∨ k = 4 ∨ k = 5 ∨ k = 9 then (2, true)
  else if k = 10 ∨ k = 15 then (1, false) else if k = 11 ∨ k = 12 ∨ k = 13 ∨ k = 14 then (2, false) else (-1, false)
end Fm
end Go.Proofs.YtkjbfomokdjbnaaGreat

/-
  The reference's List and Few.
-/
namespace Go.Proofs.YtkjbfomokdjbnaaGreat
open Go.RowKit
set_option linter.unusedSimpArgs false
set_option linter.unusedVariables false
namespace Fm

mutual
def nn : Tr → Nat
  | .mk _ ks => nnL ks + 1
def nnL : List Tr → Nat
  | [] => 0
  | k :: ks => nn k + nnL ks
end
mutual
def flatF : Tr → Int → List (Tr × Int)
  | .mk h ks, d => (.mk h ks, d) :: flatL ks (d + 1)
def flatL : List Tr → Int → List (Tr × Int)
  | [], _ => []
  | k :: ks, d => flatF k d ++ flatL ks d
end
mutual
theorem flatF_len : ∀ (t : Tr) (d : Int), (flatF t d).length = nn t
  | .mk h ks, d => by unfold flatF nn; rw [List.length_cons, flatL_len]
theorem flatL_len : ∀ (l : List Tr) (d : Int), (flatL l d).length = nnL l
  | [], d => by unfold flatL nnL; rfl
  | k :: ks, d => by unfold flatL nnL; rw [List.length_append, flatF_len, flatL_len]
end
theorem nn_pos (t : Tr) : 1 ≤ nn t := by cases t; unfold nn; omega
theorem flatL_take (ks : List Tr) (d : Int) (i : Nat) (kd : Tr) (h : ks[i]? = some kd) : flatL (ks.take (i + 1)) d = flatL (ks.take i) d ++ flatF kd d := by
  induction ks generalizing i with
  | nil => simp at h
  | cons k ks ih =>
    match i with
    | 0 => simp at h; subst h; simp [flatL]
    | i + 1 =>
      have := ih i (by simpa using h)
      rw [List.take_succ_cons, List.take_succ_cons]
      conv => lhs; unfold flatL
      conv => rhs; arg 1; unfold flatL
      rw [this, List.append_assoc]
theorem nnL_take (ks : List Tr) (i : Nat) : nnL (ks.take i) ≤ nnL ks := by
  induction ks generalizing i with
  | nil => simp
  | cons k ks ih =>
    match i with
    | 0 => simp [nnL]
    | i + 1 => rw [List.take_succ_cons]; unfold nnL; have := ih i; omega
theorem nnL_take_succ (ks : List Tr) (i : Nat) (kd : Tr) (h : ks[i]? = some kd) : nnL (ks.take (i + 1)) = nnL (ks.take i) + nn kd := by
  rw [← flatL_len _ 0, flatL_take ks 0 i kd h, List.length_append, flatL_len, flatF_len]

theorem infoTree : (Tryz.prog.info? TT).map (fun i => (i.zero, i.size, i.bytes)) = some (some (.agg #[.int .i64 0, .bool false, .slice none 0 0, .string ⟨#[]⟩, .int .i64 0, .int .i64 0, .bool false, .bool false, .slice none 0 0]), 9, 104) := by kernel_rfl
theorem infoInt : (Tryz.prog.info? 3).map (fun i => (i.zero, i.size, i.bytes)) = some (some (.int .i64 0), 1, 8) := by kernel_rfl

/-- a row that a call made as a literal -/
theorem ownsRow_lit (w : World) (base : Nat) (e : TypeId) (size n : Nat) (cs : List Value) (hB : base ≤ w.heap.size) (hl : cs.length = n * size) (hn : n ≤ maxLen) :
    (w.alloc (.cells cs.toArray e)).ownsRow base e size (.slice (some ⟨w.heap.size, 0, none⟩) n n) n cs :=
  ⟨hl, .inr ⟨w.heap.size, n, cs.toArray, rfl, hB, heap_alloc_new w _, Nat.le_refl _, hn, by simpa using hl, by simp [← hl]⟩⟩
theorem own_ne {w : World} {b1 b2 s1 s2 n1 n2 : Nat} {e1 e2 : TypeId} {v1 v2 : Value} {xs ys : List Value} (h1 : w.ownsRow b1 e1 s1 v1 n1 xs) (h2 : w.ownsRow b2 e2 s2 v2 n2 ys) (he : e1 ≠ e2) : v2.ownBlock = none ∨ v2.ownBlock ≠ v1.ownBlock := by
  rcases h1.2 with ⟨rfl, _⟩ | ⟨g, cap, cur, rfl, _, hg, _⟩
  · rcases h2.2 with ⟨rfl, _⟩ | ⟨g2, cap2, cur2, rfl, _, hg2, _⟩
    · exact .inl rfl
    · exact .inr (by simp [Value.ownBlock])
  · rcases h2.2 with ⟨rfl, _⟩ | ⟨g2, cap2, cur2, rfl, _, hg2, _⟩
    · exact .inl rfl
    · refine .inr ?_
      simp only [Value.ownBlock]
      intro e
      injection e with e
      subst e
      rw [hg] at hg2
      injection hg2 with hg2
      injection hg2 with _ h _
      exact he h

theorem SS.one {w : World} {S : Nat → Prop} {size n : Nat} {v : Value} {xs : List Value} (h : SS w S size v n xs) : True := trivial
mutual
theorem TreeAt.oneC {w : World} {S : Nat → Prop} : ∀ (t : Tr) (cs : List Value), TreeAt w S t cs → ∀ u ∈ cs, u.oneCell' = true
  | .mk h ks, cs, hT => by
    obtain ⟨A1, n1, c1, A2, n, c, xs, rfl, _⟩ := hT.mkN
    intro u hu
    simp only [hdC, List.mem_cons, List.not_mem_nil, or_false] at hu
    rcases hu with rfl | rfl | rfl | rfl | rfl | rfl | rfl | rfl | rfl <;> rfl
theorem TrsC.oneC {w : World} {S : Nat → Prop} : ∀ (ts : List Tr) (xs : List Value), TrsC w S ts xs → ∀ u ∈ xs, u.oneCell' = true
  | [], xs, h => by unfold TrsC at h; subst h; intro u hu; cases hu
  | t :: ts, xs, h => by
    unfold TrsC at h
    obtain ⟨cs, rest, rfl, h1, h2⟩ := h
    intro u hu
    rcases List.mem_append.1 hu with hu | hu
    · exact TreeAt.oneC t cs h1 u hu
    · exact TrsC.oneC ts rest h2 u hu
end

def depC (L : List (Tr × Int)) : List Value := L.map fun p => .int .i64 p.2
def ListPost (L : List (Tr × Int)) (S : Nat → Prop) (w : World) (e : Ending) (w' : World) : Prop :=
  ∃ g1 c1 g2 c2 xs, e = .returned (.tuple #[.slice (some ⟨g1, 0, none⟩) L.length c1, .slice (some ⟨g2, 0, none⟩) L.length c2]) ∧ w'.ownsRow w.heap.size TT 9 (.slice (some ⟨g1, 0, none⟩) L.length c1) L.length xs ∧
    TrsC w' S (L.map (·.1)) xs ∧ w'.ownsRow w.heap.size 3 1 (.slice (some ⟨g2, 0, none⟩) L.length c2) L.length (depC L) ∧ Below w.heap.size w w'
/-- the relation of the loop: the two rows so far -/
structure ListRel (L : List (Tr × Int)) (S : Nat → Prop) (B : Nat) (v1 v2 : Value) (wr : World) : Prop where
  ex : ∃ g1 c1 g2 c2 xs, v1 = .slice (some ⟨g1, 0, none⟩) L.length c1 ∧ v2 = .slice (some ⟨g2, 0, none⟩) L.length c2 ∧ wr.ownsRow B TT 9 v1 L.length xs ∧ TrsC wr S (L.map (·.1)) xs ∧ wr.ownsRow B 3 1 v2 L.length (depC L)

theorem ListPost.named {L : List (Tr × Int)} {S : Nat → Prop} {w w' : World} {e : Ending} (h : ListPost L S w e w') (n : Nat) (hn : n = L.length) :
    ∃ g1 c1 g2 c2 xs, e = .returned (.tuple #[.slice (some ⟨g1, 0, none⟩) n c1, .slice (some ⟨g2, 0, none⟩) n c2]) ∧ w'.ownsRow w.heap.size TT 9 (.slice (some ⟨g1, 0, none⟩) n c1) n xs ∧
    TrsC w' S (L.map (·.1)) xs ∧ w'.ownsRow w.heap.size 3 1 (.slice (some ⟨g2, 0, none⟩) n c2) n (depC L) ∧ Below w.heap.size w w' := by
  subst hn; exact h
theorem ListRel.named {L : List (Tr × Int)} {S : Nat → Prop} {B : Nat} {v1 v2 : Value} {w : World} (h : ListRel L S B v1 v2 w) (n : Nat) (hn : n = L.length) :
    ∃ g1 c1 g2 c2 xs, v1 = .slice (some ⟨g1, 0, none⟩) n c1 ∧ v2 = .slice (some ⟨g2, 0, none⟩) n c2 ∧ w.ownsRow B TT 9 v1 n xs ∧ TrsC w S (L.map (·.1)) xs ∧ w.ownsRow B 3 1 v2 n (depC L) := by
  subst hn; exact h.ex
theorem own_mono {w : World} {B B' size n : Nat} {e : TypeId} {v : Value} {xs : List Value} (h : w.ownsRow B e size v n xs) (hB : B' ≤ B) : w.ownsRow B' e size v n xs := by
  refine ⟨h.1, ?_⟩
  rcases h.2 with h0 | ⟨g, cap, cur, hv, hb, r⟩
  · exact .inl h0
  · exact .inr ⟨g, cap, cur, hv, Nat.le_trans hB hb, r⟩
theorem list_start {w : World} {S : Nat → Prop} {t : Tr} {cs : List Value} {d : Int} {W : World} (hS : ∀ b, S b → b < w.heap.size) (hT : TreeAt w S t cs) (hb : Below w.heap.size w W) (hs : W.heap.size = w.heap.size + 1) :
    ListRel [(t, d)] S (w.heap.size + 1) (.slice (some ⟨w.heap.size + 1, 0, none⟩) 1 1) (.slice (some ⟨w.heap.size + 1 + 1, 0, none⟩) 1 1) ((W.alloc (.cells cs.toArray TT)).alloc (.cells #[.int .i64 d] 3)) := by
  have h1 := (ownsRow_lit W (w.heap.size + 1) TT 9 1 cs (by omega) (by rw [hT.len]) (by unfold maxLen; omega))
  have h2 := ownsRow_lit (W.alloc (.cells cs.toArray TT)) (w.heap.size + 1) 3 1 1 [.int .i64 d] (by simp; omega) rfl (by unfold maxLen; omega)
  have hz : (W.alloc (.cells cs.toArray TT)).heap.size = W.heap.size + 1 := by simp
  rw [hz, hs] at h2
  rw [hs] at h1
  refine ⟨w.heap.size + 1, 1, w.heap.size + 1 + 1, 1, cs, rfl, rfl, h1.alloc _, ?_, h2⟩
  refine TrsC.one (hT.below hS ((hb.alloc (by omega) _).alloc (by rw [hz]; omega) _))
/-- what a growing row of the call's own leaves alone -/
theorem grown_row {w w2 w3 : World} {base size n : Nat} {e : TypeId} {v : Value} {xs : List Value} (ho : w2.ownsRow (w.heap.size + 1) e size v n xs) (hs : w.heap.size < w2.heap.size) (hg : w2.grownBy w3 v.ownBlock) :
    Below w.heap.size w2 w3 ∧ w3.heap[w.heap.size]? = w2.heap[w.heap.size]? :=
  ⟨(Below.refl _ w2).grown hg (by omega) (fun k hk => by have := (ho.lt k hk).1; omega), hg.block _ hs (fun e => by have := (ho.lt _ e.symm).1; omega)⟩
theorem Box.grown {w w2 w3 : World} {base size n : Nat} {e : TypeId} {v : Value} {xs : List Value} {cs : Array Value} {T : TypeId} (h : Box w w2 w.heap.size cs T) (ho : w2.ownsRow (w.heap.size + 1) e size v n xs) (hg : w2.grownBy w3 v.ownBlock) : Box w w3 w.heap.size cs T := by
  obtain ⟨h1, h2⟩ := grown_row (base := base) ho h.lt hg
  exact ⟨h.below.trans h1, h2.trans h.cells⟩

/-! ### Few -/
mutual
theorem roomF_nn : ∀ (t : Tr) (n d : Int), 0 ≤ roomF t n d → roomF t n d = n - nn t
  | .mk _ ks, n, d, h => by
    unfold roomF at h ⊢
    unfold nn
    split at h
    · omega
    · rename_i hd
      rw [if_neg hd]
      have := roomL_nn ks (n - 1) (d - 1) h
      omega
theorem roomL_nn : ∀ (l : List Tr) (n d : Int), 0 ≤ roomL l n d → roomL l n d = n - nnL l
  | [], n, d, h => by unfold roomL nnL; omega
  | k :: ks, n, d, h => by
    unfold roomL at h ⊢
    unfold nnL
    split at h
    · omega
    · rename_i hd
      rw [if_neg hd]
      have h1 := roomL_nn ks (roomF k n d) d h
      have h2 : 0 ≤ roomF k n d := by omega
      have := roomF_nn k n d h2
      omega
end
def shortT (t : Tr) : Bool := decide (t.h.abs.length ≤ 20) && decide (t.h.name.size ≤ 40)
def fewB (t : Tr) (n : Int) : Bool := decide (0 ≤ roomF t n 40) && (flatF t 0).all fun p => shortT p.1
theorem fewB_nn {t : Tr} {n : Int} (h : fewB t n = true) : (nn t : Int) ≤ n := by
  unfold fewB at h
  simp only [Bool.and_eq_true, decide_eq_true_eq] at h
  have := roomF_nn t n 40 h.1
  omega

end Fm
end Go.Proofs.YtkjbfomokdjbnaaGreat
