/-
  Maps from names that a call made: to counts, to true.
-/
import Derived.Test.YteneobpacobpdaaGreatDoorFmI
import Derived.Maps.OwnSet
set_option linter.unusedSimpArgs false
set_option linter.unusedVariables false
namespace Go.Proofs.YteneobpacobpdaaGreatDoor
open Go.RowKit Go.Maps Go.WideMaps
namespace Fm
theorem bytes_inj {a b : ByteArray} (h : a.data.toList = b.data.toList) : a = b := by
 cases a; cases b
 simp at h
 simp [h]
instance bytesDec : DecidableEq ByteArray := fun a b => if h : a.data.toList = b.data.toList then isTrue (bytes_inj h) else isFalse (fun e => h (by rw [e]))
instance memDec (s : ByteArray) : (L : List ByteArray) → Decidable (s ∈ L)
 | [] => isFalse (by simp)
 | a :: l =>
  if h : s = a then isTrue (by simp [h])
  else match memDec s l with
   | isTrue k => isTrue (by simp [k])
   | isFalse k => isFalse (by simp [h, k])
abbrev tStr : TypeId := 9
abbrev tI : TypeId := 3
abbrev tB : TypeId := 4
abbrev tMI : TypeId := 78
abbrev tMB : TypeId := 58
theorem strLaw : Keyed Tryz.prog tStr := string_keyed Tryz.underlying9
theorem zeroI (w : World) : (zeroValue tI).run Tryz.prog w = .ok (.int .i64 0) w := by kernel_rfl
theorem zeroB (w : World) : (zeroValue tB).run Tryz.prog w = .ok (.bool false) w := by kernel_rfl
abbrev kl (s : ByteArray) : Lit := .string s.data.toList
theorem kl_inj {s t : ByteArray} (h : kl s = kl t) : s = t := by
 unfold kl at h
 injection h with h
 cases s; cases t
 simp at h
 simp [h]
theorem keyS {s : ByteArray} (h : s.size ≤ 9223372036854775807) : keyOf Tryz.prog tStr (.string s) = some (kl s) := keyOf_string_mk Tryz.underlying9 (by unfold maxLen; omega)
def MapI (w : World) (b n : Nat) (f : ByteArray → Int) : Prop :=
 ∃ D : DataW Unit, w.ownsMap Tryz.prog tStr (plainElem Tryz.prog tI) b n D ∧ ∀ s, D.atKey (kl s) (.lit (.int .i64 0)) = .lit (.int .i64 (f s))
def MapB (w : World) (b n : Nat) (L : List ByteArray) : Prop :=
 ∃ D : DataW Unit, w.ownsMap Tryz.prog tStr (plainElem Tryz.prog tB) b n D ∧ (∀ s, D.atKey (kl s) (.lit (.bool false)) = .lit (.bool (decide (s ∈ L)))) ∧ (∀ s, Maps.has D (kl s) = decide (s ∈ L)) ∧ Maps.size D = L.length
theorem MapI.lt {w : World} {b n : Nat} {f : ByteArray → Int} (h : MapI w b n f) : b < w.heap.size := by obtain ⟨D, h, _⟩ := h; exact h.lt
theorem MapB.lt {w : World} {b n : Nat} {L : List ByteArray} (h : MapB w b n L) : b < w.heap.size := by obtain ⟨D, h, _⟩ := h; exact h.lt
theorem ownsMap_block {H : Type} {P : Program} {k : TypeId} {R : Value → Option (DataW H × List MemPlace)} {w w' : World} {b n : Nat} {D : DataW H} (h : w.ownsMap P k R b n D) (hb : w'.heap[b]? = w.heap[b]?) : w'.ownsMap P k R b n D := by
 obtain ⟨es, clock, h1, r⟩ := h
 exact ⟨es, clock, hb.trans h1, r⟩
theorem MapI.keep {w w' : World} {b n : Nat} {f : ByteArray → Int} (h : MapI w b n f) (hb : w'.heap[b]? = w.heap[b]?) : MapI w' b n f := by
 obtain ⟨D, h, r⟩ := h; exact ⟨D, ownsMap_block h hb, r⟩
theorem MapB.keep {w w' : World} {b n : Nat} {L : List ByteArray} (h : MapB w b n L) (hb : w'.heap[b]? = w.heap[b]?) : MapB w' b n L := by
 obtain ⟨D, h, r⟩ := h; exact ⟨D, ownsMap_block h hb, r⟩
theorem MapI.mono {w : World} {b n n' : Nat} {f : ByteArray → Int} (h : MapI w b n f) (hn : n ≤ n') : MapI w b n' f := by
 obtain ⟨D, h, r⟩ := h; exact ⟨D, h.mono hn, r⟩
theorem MapB.mono {w : World} {b n n' : Nat} {L : List ByteArray} (h : MapB w b n L) (hn : n ≤ n') : MapB w b n' L := by
 obtain ⟨D, h, r⟩ := h; exact ⟨D, h.mono hn, r⟩
theorem MapI.made (w : World) : MapI (w.alloc (.map #[] 0)) w.heap.size 0 (fun _ => 0) := ⟨_, World.ownsMap_made w _ _ _, fun _ => rfl⟩
theorem MapB.made (w : World) : MapB (w.alloc (.map #[] 0)) w.heap.size 0 [] := ⟨_, World.ownsMap_made w _ _ _, fun _ => rfl, fun _ => rfl, rfl⟩
def addN (L : List ByteArray) (s : ByteArray) : List ByteArray := if s ∈ L then L else L ++ [s]
theorem addN_mem (L : List ByteArray) (s t : ByteArray) : t ∈ addN L s ↔ t ∈ L ∨ t = s := by
 unfold addN
 by_cases h : s ∈ L
 ·rw [if_pos h]
  exact ⟨.inl, fun e => by rcases e with e | e; exact e; rw [e]; exact h⟩
 ·rw [if_neg h]; simp
theorem MapI.put {w w' : World} {b n : Nat} {f : ByteArray → Int} {D : DataW Unit} (h2 : ∀ s, D.atKey (kl s) (.lit (.int .i64 0)) = .lit (.int .i64 (f s))) (hm : IsMap D) (s : ByteArray) (c : Int) (h : w'.ownsMap Tryz.prog tStr (plainElem Tryz.prog tI) b n (D.put (kl s) (.lit (.int .i64 c)))) : MapI w' b n (fun t => if t = s then c else f t) := by
 refine ⟨_, h, fun t => ?_⟩
 by_cases e : t = s
 ·subst e; rw [atKey_put_same hm (show WideAt.IsKeyLit (kl t) from trivial)]; simp
 ·rw [atKey_put_other (fun h => e (kl_inj h)), h2]; simp [e]
theorem MapB.put {w w' : World} {b n : Nat} {L : List ByteArray} {D : DataW Unit} (h2 : ∀ s, D.atKey (kl s) (.lit (.bool false)) = .lit (.bool (decide (s ∈ L)))) (h3 : ∀ s, Maps.has D (kl s) = decide (s ∈ L)) (h4 : Maps.size D = L.length) (hm : IsMap D) (ht : Tidy D) (s : ByteArray) (h : w'.ownsMap Tryz.prog tStr (plainElem Tryz.prog tB) b n (D.put (kl s) (.lit (.bool true)))) : MapB w' b n (addN L s) := by
 refine ⟨_, h, fun t => ?_, fun t => ?_, ?_⟩
 ·by_cases e : t = s
  ·subst e; rw [atKey_put_same hm (show WideAt.IsKeyLit (kl t) from trivial)]; simp [addN_mem]
  ·rw [atKey_put_other (fun h => e (kl_inj h)), h2]; simp [addN_mem, e]
 ·by_cases e : t = s
  ·subst e; rw [has_put_same hm (show WideAt.IsKeyLit (kl t) from trivial)]; simp [addN_mem]
  ·rw [has_put_other (fun h => e (kl_inj h)), h3]; simp [addN_mem, e]
 ·rw [size_put ht, h3, h4]
  unfold addN
  by_cases e : s ∈ L <;> simp [e]
section
variable {ops : Array Oper} {rest : List Oper} {o : Oper} {a : Act} {Q : Exit → Act → World → Prop}
theorem plainElem_bool_inv {H : Type} {P : Program} {e : TypeId} (he : P.underlying e = some .bool) {v : Value} {z : DataW H × List MemPlace} (h : plainElem P e v = some z) : ∃ x, v = .bool x ∧ z = (.lit (.bool x), []) := by
 unfold plainElem at h
 rw [he] at h
 cases v <;> simp at h
 exact ⟨_, rfl, h.symm⟩
theorem wpList_lookupI (w : World) (hg : o.guard = none) (m x : Operand) (hop : o.op = Op.lookup tMI m x false) (b n : Nat) (f : ByteArray → Int) (hm : a.eval m = .map (some b)) (hown : MapI w b n f) (s : ByteArray) (hx : a.eval x = .string s) (hs : s.size ≤ 9223372036854775807)
  (hK : ∀ c : Int, Hid (c = f s) → wpList Tryz.prog ops Q rest (a.put o.dst (.int .i64 c)) w) : wpList Tryz.prog ops Q (o :: rest) a w := by
 obtain ⟨D, h1, h2⟩ := hown
 refine wpList_lookup_own_int w hg m x tMI hop tStr tI .i64 strLaw Tryz.underlying78 Tryz.underlying3 (zeroI w) b n D hm h1 _ _ hx (keyS hs) ?_
 intro c hat _
 rw [h2] at hat
 refine hK c ?_
 simp only [DataW.lit.injEq, Lit.int.injEq, true_and] at hat
 exact hat.symm
theorem wpList_lookupB (w : World) (hg : Region.wanted o (yielded ops a.tmps) = true) (m x : Operand) (hop : o.op = Op.lookup tMB m x false) (b n : Nat) (L : List ByteArray) (hm : a.eval m = .map (some b)) (hown : MapB w b n L) (s : ByteArray) (hx : a.eval x = .string s) (hs : s.size ≤ 9223372036854775807)
  (hK : ∀ c : Bool, Hid (c = decide (s ∈ L)) → wpList Tryz.prog ops Q rest (a.put o.dst (.bool c)) w) : wpList Tryz.prog ops Q (o :: rest) a w := by
 obtain ⟨D, h1, h2, _⟩ := hown
 refine BigFrame.wpList_want hg fun K' hK' => ?_
 obtain ⟨v, ps, hrun, hv⟩ := h1.lookup strLaw Tryz.underlying58 (zeroB w) (plainElem_bool Tryz.underlying4 false) (keyS hs)
 rw [h2] at hv
 obtain ⟨c, rfl, hc⟩ := plainElem_bool_inv Tryz.underlying4 hv
 unfold Oper.wp
 simp [execOp, hop, hm, hx, hrun, Result.andThen]
 refine hK' _ _ (hK c ?_)
 simp only [Prod.mk.injEq, DataW.lit.injEq, Lit.bool.injEq] at hc
 exact hc.1.symm
theorem wpList_storeI (w : World) (hg : o.guard = none) (m x v : Operand) (hop : o.op = Op.mapUpdate tMI m x v) (b n : Nat) (f : ByteArray → Int) (hm : a.eval m = .map (some b)) (hown : MapI w b n f) (hn : n < 1000000) (s : ByteArray) (hx : a.eval x = .string s) (hs : s.size ≤ 9223372036854775807) (c : Int) (hv : a.eval v = .int .i64 c) (hc : -9223372036854775808 ≤ c ∧ c ≤ 9223372036854775807)
  (hK : ∀ w', MapI w' b (n + 1) (fun t => if t = s then c else f t) → w.grownBy w' (some b) → wpList Tryz.prog ops Q rest (a.put o.dst undef) w') : wpList Tryz.prog ops Q (o :: rest) a w := by
 obtain ⟨D, h1, h2⟩ := hown
 refine wpList_mapUpdate_own w hg m x v tMI hop tStr tI strLaw Tryz.underlying78 _ b n D hm h1 (by unfold maxLen; omega) _ _ _ hx hv (keyS hs) _ _ (plainElem_int Tryz.underlying3 (WalkArith.wf_i64 (by omega))) ?_
 intro w' h3 h4
 exact hK w' (MapI.put (w := w) h2 h1.isMap s c h3) h4
theorem wpList_storeB (w : World) (hg : o.guard = none) (m x v : Operand) (hop : o.op = Op.mapUpdate tMB m x v) (b n : Nat) (L : List ByteArray) (hm : a.eval m = .map (some b)) (hown : MapB w b n L) (hn : n < 1000000) (s : ByteArray) (hx : a.eval x = .string s) (hs : s.size ≤ 9223372036854775807) (hv : a.eval v = .bool true)
  (hK : ∀ w', MapB w' b (n + 1) (addN L s) → w.grownBy w' (some b) → wpList Tryz.prog ops Q rest (a.put o.dst undef) w') : wpList Tryz.prog ops Q (o :: rest) a w := by
 obtain ⟨D, h1, h2, h3, h4⟩ := hown
 refine wpList_mapUpdate_own w hg m x v tMB hop tStr tB strLaw Tryz.underlying58 _ b n D hm h1 (by unfold maxLen; omega) _ _ _ hx hv (keyS hs) _ _ (plainElem_bool Tryz.underlying4 true) ?_
 intro w' h5 h6
 exact hK w' (MapB.put (w := w) h2 h3 h4 h1.isMap (h1.tidy strLaw) s h5) h6
end
end Fm
end Go.Proofs.YteneobpacobpdaaGreatDoor
