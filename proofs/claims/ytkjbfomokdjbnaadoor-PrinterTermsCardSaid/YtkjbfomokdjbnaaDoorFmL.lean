/-
  The reference's room, kids, isTerm, Is.
-/
import Derived.Test.YtkjbfomokdjbnaaDoorFmI
import Derived.Deep.AppendLies
namespace Go.Proofs.YtkjbfomokdjbnaaDoor
open Go.RowKit
set_option linter.unusedSimpArgs false
set_option linter.unusedVariables false
namespace Fm

theorem ret_int {k : IntKind} {a b : Int} (h : a = b) : Ending.returned (.int k a) = .returned (.int k b) := by rw [h]
theorem ret_bool {a b : Bool} (h : a = b) : Ending.returned (.bool a) = .returned (.bool b) := by rw [h]
abbrev TT : TypeId := 29

mutual
def roomF : Tr → Int → Int → Int
  | .mk _ ks, n, d => if d = 0 then -1 else roomL ks (n - 1) (d - 1)
def roomL : List Tr → Int → Int → Int
  | [], n, _ => n
  | k :: ks, n, d => if n < 0 then -1 else roomL ks (roomF k n d) d
end
mutual
theorem roomF_le : ∀ (t : Tr) (n d : Int), 0 ≤ n → -1 ≤ roomF t n d ∧ roomF t n d ≤ n
  | .mk _ ks, n, d, h => by
    unfold roomF
    split
    · omega
    · have := roomL_le ks (n - 1) (d - 1) (by omega)
      omega
theorem roomL_le : ∀ (l : List Tr) (n d : Int), -1 ≤ n → -1 ≤ roomL l n d ∧ roomL l n d ≤ n
  | [], n, d, h => by unfold roomL; omega
  | k :: ks, n, d, h => by
    unfold roomL
    split
    · omega
    · have h1 := roomF_le k n d (by omega)
      have := roomL_le ks (roomF k n d) d h1.1
      omega
end

theorem roomL_neg (l : List Tr) (n d : Int) (hl : l ≠ []) (h : n < 0) : roomL l n d = -1 := by
  cases l with
  | nil => exact absurd rfl hl
  | cons k ks => unfold roomL; rw [if_pos h]
theorem roomL_cons (k : Tr) (ks : List Tr) (n d : Int) (h : 0 ≤ n) : roomL (k :: ks) n d = roomL ks (roomF k n d) d := by
  conv => lhs; unfold roomL
  rw [if_neg (by omega)]
theorem drop_at {α : Type} {l : List α} {i : Nat} {x : α} (h : l[i]? = some x) : l.drop i = x :: l.drop (i + 1) := by
  obtain ⟨hi, rfl⟩ := List.getElem?_eq_some_iff.1 h
  exact List.drop_eq_getElem_cons hi
theorem mem_at {α : Type} {l : List α} {i : Nat} {x : α} (h : l[i]? = some x) : x ∈ l := by
  obtain ⟨hi, rfl⟩ := List.getElem?_eq_some_iff.1 h
  exact List.getElem_mem hi

set_option maxRecDepth 100000 in
set_option maxHeartbeats 4000000 in
theorem room_any : ∀ (t : Tr) (cs : List Value) (S : Nat → Prop) (n d : Int) (w : World), (∀ b, S b → b < w.heap.size) → TreeAt w S t cs → 0 ≤ n → n ≤ 1000000 → 0 ≤ d → d ≤ 1000000 →
    Calls Tryd.prog 44 #[.agg cs.toArray, .int .i64 n, .int .i64 d] w fun e w' => e = .returned (.int .i64 (roomF t n d)) ∧ Below w.heap.size w w' := by
  refine Tr.ind fun h ks ih => ?_
  intro cs S n d w hS hT hn0 hn1 hd0 hd1
  obtain ⟨A1, n1, c1, A2, K, c2, xs, rfl, hK, hKc, hK64, hn1', hnm, hab, hks, htr⟩ := hT.mkN
  have IH := Lib.hid ih
  have HK := Lib.hid hK
  have HKS := Lib.hid hks
  have HTR := Lib.hid htr
  clear ih hK hks htr hT hab hnm hn1'
  obtain ⟨R, hR⟩ : ∃ R, R = roomF (.mk h ks) n d := ⟨_, rfl⟩
  rw [← hR]
  have HR := Lib.hid hR
  clear hR
  have hx0 := Box.new w (hdC h (.slice A1 n1 c1) (.slice A2 K c2)).toArray TT
  have HX0 := Lib.hid hx0
  clear hx0
  by_cases hd : d = 0
  · subst hd
    have HF := Lib.hid (show R = -1 by rw [HR.out]; unfold roomF; rw [if_pos rfl])
    unfold hdC
    go_enter Tryd.func44, Tryd.ntmps44
    go_wp2
    go_ret
    exact ⟨by rw [HF.out]; rfl, HX0.out.below⟩
  · have HF := Lib.hid (show R = roomL ks (n - 1) (d - 1) by rw [HR.out]; unfold roomF; rw [if_neg hd])
    have hd' : (d == 0) = false := by simpa using hd
    unfold hdC
    go_enter Tryd.func44, Tryd.ntmps44
    go_wp2
    go_loopw [1, 15] (fun n_ a_ wr => ∃ (i : Nat) (m : Int), i ≤ K ∧ a_ = .int .i64 i ∧ n_ = .int .i64 m ∧ -1 ≤ m ∧ m ≤ n ∧ Box w wr w.heap.size (hdC h (.slice A1 n1 c1) (.slice A2 K c2)).toArray TT ∧ Hid (roomL (ks.drop i) m (d - 1) = R)) (fun _ a_ _ => K - (intOf a_).toNat)
    case atStart => exact ⟨0, n - 1, Nat.zero_le _, rfl, rfl, by omega, by omega, HX0.out, Lib.hid (by rw [HF.out, List.drop_zero])⟩
    case round =>
      obtain ⟨i, m, hi, rfl, rfl, hm0, hm1, hbox, hrel⟩ := hrel
      have b8 : wr.cell? ⟨w.heap.size, 8, none⟩ = some (.slice A2 K c2) := hbox.cell 8
      have HB := Lib.hid hbox
      have hbel := hbox.below
      clear hbox
      by_cases hlt : i < K
      · by_cases hm : m < 0
        · have HM := Lib.hid (show R = -1 by rw [← hrel.out]; exact roomL_neg _ _ _ (by intro e; have := congrArg List.length e; rw [List.length_drop, List.length_nil] at this; have := HK.out; omega) hm)
          go_wp2
          go_ret
          exact ⟨by rw [HM.out]; rfl, hbel⟩
        · obtain ⟨kd, b, o, B1, m1, e1, B2, m2, e2, hkd, rfl, hb, hT, g0, g1, g2, g3, g4, g5, g6, g7, g8⟩ := kid_cells (HKS.out.below hS hbel) (HTR.out.below hS hbel) HK.out i hlt
          have hC := IH.out kd (mem_at hkd) _ S m (d - 1) wr (fun b hb => Nat.lt_of_lt_of_le (hS b hb) hbel.size) hT (by omega) (by omega) (by omega) (by omega)
          have HC := Lib.hid hC
          have HS := Lib.hid (show roomL (ks.drop (i + 1)) (roomF kd m (d - 1)) (d - 1) = R by rw [← hrel.out, drop_at hkd, roomL_cons _ _ _ _ (by omega)])
          have hle := roomF_le kd m (d - 1) (by omega)
          obtain ⟨Rk, hRk⟩ : ∃ Rk, Rk = roomF kd m (d - 1) := ⟨_, rfl⟩
          rw [← hRk] at HS HC hle
          clear hC hkd hb hT hRk
          have hw1 : IntKind.i64.wrap (d - 1) = d - 1 := IntWalk.i64_in _ (by omega)
          go_wp2_with (go_at_call 44; refine HC.out.mono ?_; rintro e w2 ⟨rfl, hb2⟩; have hb2' := Lib.hid (HB.out.step hb2))
          go_roundw
          case rel => exact ⟨i + 1, Rk, by omega, by go_num, rfl, by omega, by omega, hb2'.out, HS⟩
          case measure => simp [intOf]; omega
      · have HE := Lib.hid (show R = m by rw [← hrel.out, List.drop_eq_nil_of_le (by have := HK.out; omega)]; unfold roomL; rfl)
        go_wp2
        go_ret
        exact ⟨ret_int HE.out.symm, hbel⟩

/-! ### kids, isTerm, Is -/
def kidsN (k : Int) : Int × Bool :=
  if k = 1 ∨ k = 2 ∨ k = 8 then (0, true) else if k = 6 ∨ k = 7 then (1, true) else if k = 3 ∨ k = 4 ∨ k = 5 ∨ k = 9 then (2, true)
  else if k = 10 ∨ k = 15 then (1, false) else if k = 11 ∨ k = 12 ∨ k = 13 ∨ k = 14 then (2, false) else (-1, false)
set_option maxHeartbeats 4000000 in
theorem kids_any (k : Int) (w : World) :
    Calls Tryd.prog 45 #[.int .i64 k] w fun e w' => e = .returned (.tuple #[.int .i64 (kidsN k).1, .bool (kidsN k).2]) ∧ w' = w := by
  obtain ⟨a, b, hab⟩ : ∃ a b, kidsN k = (a, b) := ⟨_, _, rfl⟩
  rw [hab]
  have H := Lib.hid hab
  clear hab
  by_cases hk : 1 ≤ k ∧ k ≤ 15
  · have hc : k = 1 ∨ k = 2 ∨ k = 3 ∨ k = 4 ∨ k = 5 ∨ k = 6 ∨ k = 7 ∨ k = 8 ∨ k = 9 ∨ k = 10 ∨ k = 11 ∨ k = 12 ∨ k = 13 ∨ k = 14 ∨ k = 15 := by omega
    clear hk
    rcases hc with rfl | rfl | rfl | rfl | rfl | rfl | rfl | rfl | rfl | rfl | rfl | rfl | rfl | rfl | rfl
    all_goals
      have h2 := H.out
      simp [kidsN] at h2
      obtain ⟨rfl, rfl⟩ := h2
      clear H
      go_enter Tryd.func45, Tryd.ntmps45
      go_wp2
      go_ret2
      exact ⟨rfl, rfl⟩
  · have h2 : kidsN k = (-1, false) := by
      unfold kidsN
      rw [if_neg (by omega), if_neg (by omega), if_neg (by omega), if_neg (by omega), if_neg (by omega)]
    have h3 := H.out
    rw [h2] at h3
    injection h3 with e1 e2
    subst e1; subst e2
    have f1 : (k == 1) = false := by simp; omega
    have f2 : (k == 2) = false := by simp; omega
    have f3 : (k == 3) = false := by simp; omega
    have f4 : (k == 4) = false := by simp; omega
    have f5 : (k == 5) = false := by simp; omega
    have f6 : (k == 6) = false := by simp; omega
    have f7 : (k == 7) = false := by simp; omega
    have f8 : (k == 8) = false := by simp; omega
    have f9 : (k == 9) = false := by simp; omega
    have f10 : (k == 10) = false := by simp; omega
    have f11 : (k == 11) = false := by simp; omega
    have f12 : (k == 12) = false := by simp; omega
    have f13 : (k == 13) = false := by simp; omega
    have f14 : (k == 14) = false := by simp; omega
    have f15 : (k == 15) = false := by simp; omega
    clear H hk h2
    go_enter Tryd.func45, Tryd.ntmps45
    go_wp2
    go_ret2
    exact ⟨rfl, rfl⟩

theorem isTerm_any (k : Int) (w : World) (r : Bool) (hr : r = (decide (1 ≤ k) && decide (k ≤ 7))) :
    Calls Tryd.prog 46 #[.int .i64 k] w fun e w' => e = .returned (.bool r) ∧ w' = w := by
  have H := Lib.hid hr
  clear hr
  by_cases h1 : 1 ≤ k
  · by_cases h2 : k ≤ 7
    · have HF := Lib.hid (show r = true by rw [H.out]; simp; omega)
      go_enter Tryd.func46, Tryd.ntmps46
      go_wp2
      go_ret
      exact ⟨by rw [HF.out]; rfl, rfl⟩
    · have HF := Lib.hid (show r = false by rw [H.out]; simp; omega)
      go_enter Tryd.func46, Tryd.ntmps46
      go_wp2
      go_ret
      exact ⟨by rw [HF.out]; rfl, rfl⟩
  · have HF := Lib.hid (show r = false by rw [H.out]; simp; omega)
    go_enter Tryd.func46, Tryd.ntmps46
    go_wp2
    go_ret
    exact ⟨by rw [HF.out]; rfl, rfl⟩
end Fm
end Go.Proofs.YtkjbfomokdjbnaaDoor

/-
  The reference's List and Few.
-/
namespace Go.Proofs.YtkjbfomokdjbnaaDoor
open Go.RowKit
set_option linter.unusedSimpArgs false
set_option linter.unusedVariables false
namespace Fm

mutual
def nn : Tr → Nat
  | .mk _ ks => nnL ks + 1
def nnL : List Tr → Nat
  | [] => 0
  | k :: ks => nn k + nnL ks
end
mutual
def flatF : Tr → Int → List (Tr × Int)
  | .mk h ks, d => (.mk h ks, d) :: flatL ks (d + 1)
def flatL : List Tr → Int → List (Tr × Int)
  | [], _ => []
  | k :: ks, d => flatF k d ++ flatL ks d
end
mutual
theorem flatF_len : ∀ (t : Tr) (d : Int), (flatF t d).length = nn t
  | .mk h ks, d => by unfold flatF nn; rw [List.length_cons, flatL_len]
theorem flatL_len : ∀ (l : List Tr) (d : Int), (flatL l d).length = nnL l
  | [], d => by unfold flatL nnL; rfl
  | k :: ks, d => by unfold flatL nnL; rw [List.length_append, flatF_len, flatL_len]
end
theorem nn_pos (t : Tr) : 1 ≤ nn t := by cases t; unfold nn; omega
theorem flatL_take (ks : List Tr) (d : Int) (i : Nat) (kd : Tr) (h : ks[i]? = some kd) : flatL (ks.take (i + 1)) d = flatL (ks.take i) d ++ flatF kd d := by
  induction ks generalizing i with
  | nil => simp at h
  | cons k ks ih =>
    match i with
    | 0 => simp at h; subst h; simp [flatL]
    | i + 1 =>
      have := ih i (by simpa using h)
      rw [List.take_succ_cons, List.take_succ_cons]
      conv => lhs; unfold flatL
      conv => rhs; arg 1; unfold flatL
      rw [this, List.append_assoc]
theorem nnL_take (ks : List Tr) (i : Nat) : nnL (ks.take i) ≤ nnL ks := by
  induction ks generalizing i with
  | nil => simp
  | cons k ks ih =>
    match i with
    | 0 => simp [nnL]
    | i + 1 => rw [List.take_succ_cons]; unfold nnL; have := ih i; omega
theorem nnL_take_succ (ks : List Tr) (i : Nat) (kd : Tr) (h : ks[i]? = some kd) : nnL (ks.take (i + 1)) = nnL (ks.take i) + nn kd := by
  rw [← flatL_len _ 0, flatL_take ks 0 i kd h, List.length_append, flatL_len, flatF_len]

theorem infoTree : (Tryd.prog.info? TT).map (fun i => (i.zero, i.size, i.bytes)) = some (some (.agg #[.int .i64 0, .bool false, .slice none 0 0, .string ⟨#[]⟩, .int .i64 0, .int .i64 0, .bool false, .bool false, .slice none 0 0]), 9, 104) := by kernel_rfl
theorem infoInt : (Tryd.prog.info? 3).map (fun i => (i.zero, i.size, i.bytes)) = some (some (.int .i64 0), 1, 8) := by kernel_rfl

/-- a row that a call made as a literal -/
theorem ownsRow_lit (w : World) (base : Nat) (e : TypeId) (size n : Nat) (cs : List Value) (hB : base ≤ w.heap.size) (hl : cs.length = n * size) (hn : n ≤ maxLen) :
    (w.alloc (.cells cs.toArray e)).ownsRow base e size (.slice (some ⟨w.heap.size, 0, none⟩) n n) n cs :=
  ⟨hl, .inr ⟨w.heap.size, n, cs.toArray, rfl, hB, heap_alloc_new w _, Nat.le_refl _, hn, by simpa using hl, by simp [← hl]⟩⟩
theorem own_ne {w : World} {b1 b2 s1 s2 n1 n2 : Nat} {e1 e2 : TypeId} {v1 v2 : Value} {xs ys : List Value} (h1 : w.ownsRow b1 e1 s1 v1 n1 xs) (h2 : w.ownsRow b2 e2 s2 v2 n2 ys) (he : e1 ≠ e2) : v2.ownBlock = none ∨ v2.ownBlock ≠ v1.ownBlock := by
  rcases h1.2 with ⟨rfl, _⟩ | ⟨g, cap, cur, rfl, _, hg, _⟩
  · rcases h2.2 with ⟨rfl, _⟩ | ⟨g2, cap2, cur2, rfl, _, hg2, _⟩
    · exact .inl rfl
    · exact .inr (by simp [Value.ownBlock])
  · rcases h2.2 with ⟨rfl, _⟩ | ⟨g2, cap2, cur2, rfl, _, hg2, _⟩
    · exact .inl rfl
    · refine .inr ?_
      simp only [Value.ownBlock]
      intro e
      injection e with e
      subst e
      rw [hg] at hg2
      injection hg2 with hg2
      injection hg2 with _ h _
      exact he h

theorem SS.one {w : World} {S : Nat → Prop} {size n : Nat} {v : Value} {xs : List Value} (h : SS w S size v n xs) : True := trivial
mutual
theorem TreeAt.oneC {w : World} {S : Nat → Prop} : ∀ (t : Tr) (cs : List Value), TreeAt w S t cs → ∀ u ∈ cs, u.oneCell' = true
  | .mk h ks, cs, hT => by
    obtain ⟨A1, n1, c1, A2, n, c, xs, rfl, _⟩ := hT.mkN
    intro u hu
    simp only [hdC, List.mem_cons, List.not_mem_nil, or_false] at hu
    rcases hu with rfl | rfl | rfl | rfl | rfl | rfl | rfl | rfl | rfl <;> rfl
theorem TrsC.oneC {w : World} {S : Nat → Prop} : ∀ (ts : List Tr) (xs : List Value), TrsC w S ts xs → ∀ u ∈ xs, u.oneCell' = true
  | [], xs, h => by unfold TrsC at h; subst h; intro u hu; cases hu
  | t :: ts, xs, h => by
    unfold TrsC at h
    obtain ⟨cs, rest, rfl, h1, h2⟩ := h
    intro u hu
    rcases List.mem_append.1 hu with hu | hu
    · exact TreeAt.oneC t cs h1 u hu
    · exact TrsC.oneC ts rest h2 u hu
end

def depC (L : List (Tr × Int)) : List Value := L.map fun p => .int .i64 p.2
def ListPost (L : List (Tr × Int)) (S : Nat → Prop) (w : World) (e : Ending) (w' : World) : Prop :=
  ∃ g1 c1 g2 c2 xs, e = .returned (.tuple #[.slice (some ⟨g1, 0, none⟩) L.length c1, .slice (some ⟨g2, 0, none⟩) L.length c2]) ∧ w'.ownsRow w.heap.size TT 9 (.slice (some ⟨g1, 0, none⟩) L.length c1) L.length xs ∧
    TrsC w' S (L.map (·.1)) xs ∧ w'.ownsRow w.heap.size 3 1 (.slice (some ⟨g2, 0, none⟩) L.length c2) L.length (depC L) ∧ Below w.heap.size w w'
/-- the relation of the loop: the two rows so far -/
structure ListRel (L : List (Tr × Int)) (S : Nat → Prop) (B : Nat) (v1 v2 : Value) (wr : World) : Prop where
  ex : ∃ g1 c1 g2 c2 xs, v1 = .slice (some ⟨g1, 0, none⟩) L.length c1 ∧ v2 = .slice (some ⟨g2, 0, none⟩) L.length c2 ∧ wr.ownsRow B TT 9 v1 L.length xs ∧ TrsC wr S (L.map (·.1)) xs ∧ wr.ownsRow B 3 1 v2 L.length (depC L)

theorem ListPost.named {L : List (Tr × Int)} {S : Nat → Prop} {w w' : World} {e : Ending} (h : ListPost L S w e w') (n : Nat) (hn : n = L.length) :
    ∃ g1 c1 g2 c2 xs, e = .returned (.tuple #[.slice (some ⟨g1, 0, none⟩) n c1, .slice (some ⟨g2, 0, none⟩) n c2]) ∧ w'.ownsRow w.heap.size TT 9 (.slice (some ⟨g1, 0, none⟩) n c1) n xs ∧
    TrsC w' S (L.map (·.1)) xs ∧ w'.ownsRow w.heap.size 3 1 (.slice (some ⟨g2, 0, none⟩) n c2) n (depC L) ∧ Below w.heap.size w w' := by
  subst hn; exact h
theorem ListRel.named {L : List (Tr × Int)} {S : Nat → Prop} {B : Nat} {v1 v2 : Value} {w : World} (h : ListRel L S B v1 v2 w) (n : Nat) (hn : n = L.length) :
    ∃ g1 c1 g2 c2 xs, v1 = .slice (some ⟨g1, 0, none⟩) n c1 ∧ v2 = .slice (some ⟨g2, 0, none⟩) n c2 ∧ w.ownsRow B TT 9 v1 n xs ∧ TrsC w S (L.map (·.1)) xs ∧ w.ownsRow B 3 1 v2 n (depC L) := by
  subst hn; exact h.ex
theorem own_mono {w : World} {B B' size n : Nat} {e : TypeId} {v : Value} {xs : List Value} (h : w.ownsRow B e size v n xs) (hB : B' ≤ B) : w.ownsRow B' e size v n xs := by
  refine ⟨h.1, ?_⟩
  rcases h.2 with h0 | ⟨g, cap, cur, hv, hb, r⟩
  · exact .inl h0
  · exact .inr ⟨g, cap, cur, hv, Nat.le_trans hB hb, r⟩
theorem list_start {w : World} {S : Nat → Prop} {t : Tr} {cs : List Value} {d : Int} {W : World} (hS : ∀ b, S b → b < w.heap.size) (hT : TreeAt w S t cs) (hb : Below w.heap.size w W) (hs : W.heap.size = w.heap.size + 1) :
    ListRel [(t, d)] S (w.heap.size + 1) (.slice (some ⟨w.heap.size + 1, 0, none⟩) 1 1) (.slice (some ⟨w.heap.size + 1 + 1, 0, none⟩) 1 1) ((W.alloc (.cells cs.toArray TT)).alloc (.cells #[.int .i64 d] 3)) := by
  have h1 := (ownsRow_lit W (w.heap.size + 1) TT 9 1 cs (by omega) (by rw [hT.len]) (by unfold maxLen; omega))
  have h2 := ownsRow_lit (W.alloc (.cells cs.toArray TT)) (w.heap.size + 1) 3 1 1 [.int .i64 d] (by simp; omega) rfl (by unfold maxLen; omega)
  have hz : (W.alloc (.cells cs.toArray TT)).heap.size = W.heap.size + 1 := by simp
  rw [hz, hs] at h2
  rw [hs] at h1
  refine ⟨w.heap.size + 1, 1, w.heap.size + 1 + 1, 1, cs, rfl, rfl, h1.alloc _, ?_, h2⟩
  refine TrsC.one (hT.below hS ((hb.alloc (by omega) _).alloc (by rw [hz]; omega) _))
/-- what a growing row of the call's own leaves alone -/
theorem grown_row {w w2 w3 : World} {base size n : Nat} {e : TypeId} {v : Value} {xs : List Value} (ho : w2.ownsRow (w.heap.size + 1) e size v n xs) (hs : w.heap.size < w2.heap.size) (hg : w2.grownBy w3 v.ownBlock) :
    Below w.heap.size w2 w3 ∧ w3.heap[w.heap.size]? = w2.heap[w.heap.size]? :=
  ⟨(Below.refl _ w2).grown hg (by omega) (fun k hk => by have := (ho.lt k hk).1; omega), hg.block _ hs (fun e => by have := (ho.lt _ e.symm).1; omega)⟩
theorem Box.grown {w w2 w3 : World} {base size n : Nat} {e : TypeId} {v : Value} {xs : List Value} {cs : Array Value} {T : TypeId} (h : Box w w2 w.heap.size cs T) (ho : w2.ownsRow (w.heap.size + 1) e size v n xs) (hg : w2.grownBy w3 v.ownBlock) : Box w w3 w.heap.size cs T := by
  obtain ⟨h1, h2⟩ := grown_row (base := base) ho h.lt hg
  exact ⟨h.below.trans h1, h2.trans h.cells⟩

set_option maxRecDepth 100000 in
set_option maxHeartbeats 8000000 in
theorem list_any : ∀ (t : Tr) (cs : List Value) (S : Nat → Prop) (d : Int) (w : World), (∀ b, S b → b < w.heap.size) → TreeAt w S t cs → nn t ≤ 100000 → 0 ≤ d → d + nn t ≤ 1000000 →
    Calls Tryd.prog 29 #[.agg cs.toArray, .int .i64 d] w (ListPost (flatF t d) S w) := by
  refine Tr.ind fun h ks ih => ?_
  intro cs S d w hS hT hnn hd0 hd1
  have hTT := hT
  obtain ⟨A1, n1, c1, A2, K, c2, xs, rfl, hK, hKc, hK64, hn1', hnm, hab, hks, htr⟩ := hT.mkN
  have hnn' : nnL ks + 1 ≤ 100000 := by have := hnn; unfold nn at this; exact this
  have hd1' : d + (nnL ks : Int) + 1 ≤ 1000000 := by have := hd1; unfold nn at this; omega
  have IH := Lib.hid ih
  have HK := Lib.hid hK
  have HKS := Lib.hid hks
  have HTR := Lib.hid htr
  have hx0 := Box.new w (hdC h (.slice A1 n1 c1) (.slice A2 K c2)).toArray TT
  have hsz0 : (w.alloc (.cells (hdC h (.slice A1 n1 c1) (.slice A2 K c2)).toArray TT)).heap.size = w.heap.size + 1 := by simp
  have HST := Lib.hid (list_start (d := d) hS hTT hx0.below hsz0)
  have HX0 := Lib.hid hx0
  clear ih hK hks htr hT hTT hab hnm hn1' hnn hd1 hx0 hsz0
  obtain ⟨i0, hi0, hz0, hz1, hz2⟩ := info_parts infoTree
  obtain ⟨j0, hj0, hy0, hy1, hy2⟩ := info_parts infoInt
  unfold hdC
  go_enter Tryd.func29, Tryd.ntmps29
  go_wp2_with fail
  go_loopw [6, 7, 18] (fun v6 v7 a_ wr => ∃ (i : Nat), i ≤ K ∧ a_ = .int .i64 i ∧ Box w wr w.heap.size (hdC h (.slice A1 n1 c1) (.slice A2 K c2)).toArray TT ∧ ListRel ((.mk h ks, d) :: flatL (ks.take i) (d + 1)) S (w.heap.size + 1) v6 v7 wr) (fun _ _ a_ _ => K - (intOf a_).toNat)
  case atStart => exact ⟨0, Nat.zero_le _, rfl, (HX0.out.alloc _).alloc _, HST.out⟩
  case round =>
    obtain ⟨i, hi, rfl, hbox, hlr⟩ := hrel
    obtain ⟨N, hN⟩ : ∃ N, N = ((Tr.mk h ks, d) :: flatL (ks.take i) (d + 1)).length := ⟨_, rfl⟩
    have hN2 : N ≤ nnL ks + 1 := by rw [hN, List.length_cons, flatL_len]; have := nnL_take ks i; omega
    obtain ⟨g1, d1, g2, d2, zs, rfl, rfl, ho1, ht1, ho2⟩ := hlr.named N hN
    have b8 : wr.cell? ⟨w.heap.size, 8, none⟩ = some (.slice A2 K c2) := hbox.cell 8
    have HB := Lib.hid hbox
    have hbel := hbox.below
    have hblt := hbox.lt
    have HO1 := Lib.hid ho1
    have HT1 := Lib.hid ht1
    have HO2 := Lib.hid ho2
    have HN := Lib.hid hN
    clear hbox ho1 ht1 ho2 hlr hN
    by_cases hlt : i < K
    · obtain ⟨kd, b, o, B1, m1, e1', B2, m2, e2', hkd, rfl, hb, hT, k0, k1, k2, k3, k4, k5, k6, k7, k8⟩ := kid_cells (HKS.out.below hS hbel) (HTR.out.below hS hbel) HK.out i hlt
      have hsucc := nnL_take_succ ks i kd hkd
      have hle2 := nnL_take ks (i + 1)
      have hw1 : IntKind.i64.wrap (d + 1) = d + 1 := IntWalk.i64_in _ (by omega)
      have hC := IH.out kd (mem_at hkd) _ S (d + 1) wr (fun b hb => Nat.lt_of_lt_of_le (hS b hb) hbel.size) hT (by omega) (by omega) (by omega)
      obtain ⟨M, hM⟩ : ∃ M, M = (flatF kd (d + 1)).length := ⟨_, rfl⟩
      have hM1 : 1 ≤ M := by rw [hM, flatF_len]; exact nn_pos kd
      have hMN : N + M ≤ nnL ks + 1 := by rw [HN.out, hM, List.length_cons, flatL_len, flatF_len]; omega
      have HFL := Lib.hid (show (Tr.mk h ks, d) :: flatL (ks.take (i + 1)) (d + 1) = ((Tr.mk h ks, d) :: flatL (ks.take i) (d + 1)) ++ flatF kd (d + 1) by rw [flatL_take _ _ _ _ hkd]; rfl)
      have HC := Lib.hid hC
      have HM := Lib.hid hM
      clear hC hkd hb hT hM hsucc hle2
      have hbs := hbel.size
      go_wp2_with (first
        | (go_at_call 29; refine HC.out.mono ?_; intro e w2 hp; obtain ⟨p1, q1, p2, q2, ys, rfl, hoA, htA, hoB, hb2⟩ := hp.named M HM.out; clear hp; have HOA := Lib.hid hoA; have HTA := Lib.hid htA; have HOB := Lib.hid hoB; clear hoA htA hoB; have hb2s := hb2.size; have HO12 := Lib.hid (own_below HO1.out hb2); have HO22 := Lib.hid (own_below HO2.out hb2))
        | (at_builtin; refine wpList_append_lies _ rfl (.tmp 32) (.tmp 33) 27 rfl (w.heap.size + 1) TT i0 _ 9 104 Tryd.underlying27 hi0 hz0 hz1 hz2 rfl (by decide) _ N zs rfl HO12.out ⟨p1, 0, none⟩ M q1 ys rfl HOA.out.1 (HOA.out.cells (g := p1) rfl) (TrsC.oneC _ _ HTA.out) (by omega) (by unfold maxLen; omega) (by omega) (by omega) w2.heap.size rfl ?_; intro g3 cap3 w3 ho3 hgrow3 hat3 hlt3; have HO3 := Lib.hid ho3; have HG3 := Lib.hid hgrow3; clear ho3 hat3; have hg3s := hgrow3.size; clear hgrow3; have HOB3 := Lib.hid (HOB.out.kept HG3.out (own_ne HO12.out HOB.out (by decide))); have HO23 := Lib.hid (HO22.out.kept HG3.out (own_ne HO12.out HO22.out (by decide))))
        | (at_builtin; refine wpList_append_lies _ rfl (.tmp 35) (.tmp 36) 78 rfl (w.heap.size + 1) 3 j0 _ 1 8 Tryd.underlying78 hj0 hy0 hy1 hy2 rfl (by decide) _ N _ rfl HO23.out ⟨p2, 0, none⟩ M q2 (depC (flatF kd (d + 1))) rfl HOB3.out.1 (HOB3.out.cells (g := p2) rfl) (by intro u hu; unfold depC at hu; obtain ⟨x, _, rfl⟩ := List.mem_map.1 hu; rfl) (by omega) (by unfold maxLen; omega) (by omega) (by omega) w3.heap.size rfl ?_; intro g4 cap4 w4 ho4 hgrow4 hat4 hlt4; have HO4 := Lib.hid ho4; have HG4 := Lib.hid hgrow4; clear ho4 hgrow4 hat4))
      go_roundw
      case rel =>
        have hx2 := HB.out.step hb2
        have hx3 := hx2.grown (base := 0) HO12.out HG3.out
        have hx4 := hx3.grown (base := 0) HO23.out HG4.out
        have l2 := hx2.lt
        have l3 := hx3.lt
        have b23 := (grown_row (base := 0) HO12.out l2 HG3.out).1
        have b34 := (grown_row (base := 0) HO23.out l3 HG4.out).1
        refine ⟨i + 1, by omega, by go_num, hx4, ?_⟩
        rw [HFL.out]
        have hlen : N + M = (((Tr.mk h ks, d) :: flatL (ks.take i) (d + 1)) ++ flatF kd (d + 1)).length := by rw [List.length_append, ← HN.out, ← HM.out]
        refine ⟨g3, cap3, g4, cap4, zs ++ ys, by rw [← hlen], by rw [← hlen], ?_, ?_, ?_⟩
        · rw [← hlen]; exact HO3.out.kept HG4.out (own_ne HO23.out HO3.out (by decide))
        · rw [List.map_append]
          refine TrsC.append ?_ ?_
          · exact ((HT1.out.below (fun b hb => Nat.lt_of_lt_of_le (hS b hb) hbs) hb2).below hS b23).below hS b34
          · exact (HTA.out.below hS b23).below hS b34
        · rw [← hlen]
          have e : depC (((Tr.mk h ks, d) :: flatL (ks.take i) (d + 1)) ++ flatF kd (d + 1)) = depC ((Tr.mk h ks, d) :: flatL (ks.take i) (d + 1)) ++ depC (flatF kd (d + 1)) := by unfold depC; rw [List.map_append]
          rw [e]
          exact HO4.out
      case measure => simp [intOf]; omega
    · have HE := Lib.hid (show (Tr.mk h ks, d) :: flatL (ks.take i) (d + 1) = flatF (Tr.mk h ks) d by
        rw [List.take_of_length_le (by have := HK.out; omega)]
        conv => rhs; unfold flatF)
      go_wp2
      go_ret2
      rw [HE.out] at HN HT1 HO2
      have hN := HN.out
      subst hN
      exact ⟨g1, d1, g2, d2, zs, rfl, own_mono HO1.out (by omega), HT1.out, own_mono HO2.out (by omega), hbel⟩

/-! ### Few -/
mutual
theorem roomF_nn : ∀ (t : Tr) (n d : Int), 0 ≤ roomF t n d → roomF t n d = n - nn t
  | .mk _ ks, n, d, h => by
    unfold roomF at h ⊢
    unfold nn
    split at h
    · omega
    · rename_i hd
      rw [if_neg hd]
      have := roomL_nn ks (n - 1) (d - 1) h
      omega
theorem roomL_nn : ∀ (l : List Tr) (n d : Int), 0 ≤ roomL l n d → roomL l n d = n - nnL l
  | [], n, d, h => by unfold roomL nnL; omega
  | k :: ks, n, d, h => by
    unfold roomL at h ⊢
    unfold nnL
    split at h
    · omega
    · rename_i hd
      rw [if_neg hd]
      have h1 := roomL_nn ks (roomF k n d) d h
      have h2 : 0 ≤ roomF k n d := by omega
      have := roomF_nn k n d h2
      omega
end
def shortT (t : Tr) : Bool := decide (t.h.abs.length ≤ 20) && decide (t.h.name.size ≤ 40)
def fewB (t : Tr) (n : Int) : Bool := decide (0 ≤ roomF t n 40) && (flatF t 0).all fun p => shortT p.1
theorem fewB_nn {t : Tr} {n : Int} (h : fewB t n = true) : (nn t : Int) ≤ n := by
  unfold fewB at h
  simp only [Bool.and_eq_true, decide_eq_true_eq] at h
  have := roomF_nn t n 40 h.1
  omega

set_option maxRecDepth 100000 in
set_option maxHeartbeats 8000000 in
theorem few_any (t : Tr) (cs : List Value) (S : Nat → Prop) (n : Int) (w : World) (hS : ∀ b, S b → b < w.heap.size) (hT : TreeAt w S t cs) (hn0 : 0 ≤ n) (hn1 : n ≤ 10000) :
    Calls Tryd.prog 21 #[.agg cs.toArray, .int .i64 n] w fun e w' => e = .returned (.bool (fewB t n)) ∧ Below w.heap.size w w' := by
  obtain ⟨R, hR⟩ : ∃ R, R = fewB t n := ⟨_, rfl⟩
  rw [← hR]
  have HR := Lib.hid hR
  clear hR
  have hx0 := Box.new w cs.toArray TT
  have hT1 := hT.below hS hx0.below
  have hS1 : ∀ b, S b → b < (w.alloc (.cells cs.toArray TT)).heap.size := fun b hb => by have := hS b hb; simp; omega
  obtain ⟨q, hq⟩ : ∃ q, q = roomF t n 40 := ⟨_, rfl⟩
  have hqb := roomF_le t n 40 hn0
  have hC1 := room_any t cs S n 40 _ hS1 hT1 hn0 (by omega) (by omega) (by omega)
  rw [← hq] at hC1 hqb
  have HQ := Lib.hid hq
  have HC1 := Lib.hid hC1
  have HX0 := Lib.hid hx0
  have HT := Lib.hid hT
  have HS := Lib.hid hS
  obtain ⟨A1, n1, c1, A2, K, c2, xs, rfl, hK, hKc, hK64, hn1', hnm, hab, hks, htr⟩ := hT.named
  clear hq hC1 hx0 hT hS hT1 hS1 hK hab hks htr hnm hn1' hK64 hKc
  unfold hdC at HC1
  by_cases hq0 : q < 0
  · have HF := Lib.hid (show R = false by rw [HR.out]; unfold fewB; rw [decide_eq_false (by rw [← HQ.out]; omega)]; rfl)
    unfold hdC
    go_enter Tryd.func21, Tryd.ntmps21
    go_wp2_with (go_at_call 44; refine HC1.out.mono ?_; rintro e w1 ⟨rfl, hb1⟩; have HB1 := Lib.hid (HX0.out.step hb1))
    go_ret
    exact ⟨by rw [HF.out]; rfl, HB1.out.below⟩
  · have hnn : (nn t : Int) ≤ n := by have := roomF_nn t n 40 (by rw [← HQ.out]; omega); rw [← HQ.out] at this; omega
    obtain ⟨N, hN⟩ : ∃ N, N = (flatF t 0).length := ⟨_, rfl⟩
    have hN2 : N ≤ 10000 := by rw [hN, flatF_len]; omega
    have HG := Lib.hid (show R = (flatF t 0).all fun p => shortT p.1 by rw [HR.out]; unfold fewB; rw [decide_eq_true (by rw [← HQ.out]; omega)]; rfl)
    have HN := Lib.hid hN
    have HL := Lib.hid (fun w1 (hb : Below w.heap.size w w1) => list_any t _ S 0 w1 (fun b hb' => Nat.lt_of_lt_of_le (HS.out b hb') hb.size) (HT.out.below HS.out hb) (by omega) (by omega) (by omega))
    clear hN
    unfold hdC at HL ⊢
    go_enter Tryd.func21, Tryd.ntmps21
    go_wp2_with (first
      | (go_at_call 44; refine HC1.out.mono ?_; rintro e w1 ⟨rfl, hb1⟩; have HB1 := Lib.hid (HX0.out.step hb1); obtain ⟨b0, b1, b2, b3, b4, b5, b6, b7, b8⟩ := (HX0.out.step hb1).c9)
      | (go_at_call 29; refine (HL.out _ HB1.out.below).mono ?_; intro e w2 hp; obtain ⟨p1, q1, p2, q2, ys, rfl, hoA, htA, hoB, hb2⟩ := hp.named N HN.out; clear hp; have HOA := Lib.hid hoA; have HTA := Lib.hid htA; have HB2 := Lib.hid (HB1.out.step hb2); clear hoA htA hoB))
    have hl2 := HB2.out.below.size
    have HK1 := Lib.hid (show SS w2 (fun b => b < w2.heap.size) 9 (.slice (some ⟨p1, 0, none⟩) N q1) N ys from (SS.of_own HOA.out).more (fun b hb => hb.2))
    have HK2 := Lib.hid (show TrsC w2 (fun b => b < w2.heap.size) ((flatF t 0).map (·.1)) ys from TrsC.more (fun b hb => Nat.lt_of_lt_of_le (HS.out b hb) hl2) _ _ HTA.out)
    clear b0 b1 b2 b3 b4 b5 b6 b7 b8 hl2
    go_loop [19] (fun a => ∃ i : Nat, i ≤ N ∧ a = .int .i64 i ∧ Hid (R = ((flatF t 0).drop i).all fun p => shortT p.1)) (fun a => N - (intOf a).toNat)
    case atStart => exact ⟨0, Nat.zero_le _, rfl, Lib.hid (by rw [HG.out, List.drop_zero])⟩
    case round =>
      obtain ⟨i, hi, rfl, hrel⟩ := hrel
      by_cases hlt : i < N
      · obtain ⟨kd, b, o, B1, m1, e1', B2, m2, e2', hkd, he, hb, hT, k0, k1, k2, k3, k4, k5, k6, k7, k8⟩ := kid_cells HK1.out HK2.out (by rw [List.length_map]; exact HN.out) i hlt
        injection he with he
        injection he with he1 he2
        subst he1; subst he2
        simp only [Nat.zero_add] at k0 k1 k2 k3 k4 k5 k6 k7 k8
        obtain ⟨p, hp, hpk⟩ : ∃ p, (flatF t 0)[i]? = some p ∧ p.1 = kd := by
          rw [List.getElem?_map] at hkd
          match hz : (flatF t 0)[i]?, hkd with
          | some p, hkd => exact ⟨p, rfl, by simpa using hkd⟩
        have hm1 : m1 = kd.h.abs.length := by
          obtain ⟨A1', _, c1', A2', _, c2', _, ee, _, _, _, e5, _⟩ := hT.named
          simp only [hdC, List.cons.injEq, and_true, true_and, Value.slice.injEq] at ee
          rw [ee.1.2.1, e5]
        have hstep : (((flatF t 0).drop i).all fun p => shortT p.1) = (shortT kd && (((flatF t 0).drop (i + 1)).all fun p => shortT p.1)) := by
          rw [drop_at hp, List.all_cons, hpk]
        have hrel' := hrel.out
        rw [hstep] at hrel'
        have hsh : shortT kd = (decide (m1 ≤ 20) && decide (kd.h.name.size ≤ 40)) := by unfold shortT; rw [hm1]
        rw [hsh] at hrel'
        have HRL := Lib.hid hrel'
        obtain ⟨nm, hnm⟩ : ∃ nm, nm = kd.h.name := ⟨_, rfl⟩
        rw [← hnm] at k3 HRL
        clear hkd hb hT hp hpk hm1 hstep hrel' hsh hnm hrel
        by_cases q1 : m1 ≤ 20
        · by_cases q2 : nm.size ≤ 40
          · go_wp2
            go_round
            case rel => exact ⟨i + 1, by omega, by go_num, Lib.hid (by rw [HRL.out]; simp [q1, q2])⟩
            case measure => simp [intOf]; omega
          · have HF := Lib.hid (show R = false by rw [HRL.out]; simp [q2])
            go_wp2
            go_ret
            exact ⟨by rw [HF.out]; rfl, HB2.out.below⟩
        · have HF := Lib.hid (show R = false by rw [HRL.out]; simp [q1])
          go_wp2
          go_ret
          exact ⟨by rw [HF.out]; rfl, HB2.out.below⟩
      · have HF := Lib.hid (show R = true by rw [hrel.out, List.drop_eq_nil_of_le (by have := HN.out; omega)]; rfl)
        go_wp2
        go_ret
        exact ⟨by rw [HF.out]; rfl, HB2.out.below⟩
end Fm
end Go.Proofs.YtkjbfomokdjbnaaDoor
