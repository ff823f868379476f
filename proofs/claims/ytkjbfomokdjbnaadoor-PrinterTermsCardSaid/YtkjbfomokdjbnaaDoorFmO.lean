/-
  formula.OfTerm: what it accepts, and the term that it gives.
-/
import Derived.Test.YtkjbfomokdjbnaaDoorTm
import Derived.Test.YtkjbfomokdjbnaaDoorFmL
namespace Go.Proofs.YtkjbfomokdjbnaaDoor
open Go.RowKit
set_option linter.unusedSimpArgs false
set_option linter.unusedVariables false
namespace Fm

mutual
def Sm : Tr → Prop
  | .mk h ks => h.abs.length ≤ 20 ∧ h.name.size ≤ 40 ∧ SmL ks
def SmL : List Tr → Prop
  | [] => True
  | k :: ks => Sm k ∧ SmL ks
end
theorem SmL.at_ : ∀ {l : List Tr} (h : SmL l) {i : Nat} {k : Tr}, l[i]? = some k → Sm k
  | [], _, i, k, h => by simp at h
  | a :: l, hs, i, k, h => by
    unfold SmL at hs
    match i with
    | 0 => simp at h; subst h; exact hs.1
    | i + 1 => exact SmL.at_ hs.2 (by simpa using h)

def OfTPost (t : Tr) (w : World) (e : Ending) (w' : World) : Prop :=
  match ofT t with
  | none => e = .returned (.tuple #[.nilIface, .int .i64 9]) ∧ Below w.heap.size w w'
  | some tm => ∃ v, e = .returned (.tuple #[v, .int .i64 0]) ∧ TmAt w' (Fr w w') tm v ∧ Below w.heap.size w w'
theorem OfTPost.no {t : Tr} {w w' : World} {e : Ending} (h : OfTPost t w e w') (hn : ofT t = none) : e = .returned (.tuple #[.nilIface, .int .i64 9]) ∧ Below w.heap.size w w' := by
  unfold OfTPost at h; rw [hn] at h; exact h
theorem OfTPost.yes {t : Tr} {w w' : World} {e : Ending} (h : OfTPost t w e w') {tm : Tm} (hn : ofT t = some tm) : ∃ v, e = .returned (.tuple #[v, .int .i64 0]) ∧ TmAt w' (Fr w w') tm v ∧ Below w.heap.size w w' := by
  unfold OfTPost at h; rw [hn] at h; exact h
theorem OfTPost.mkNo {t : Tr} {w w' : World} (hn : ofT t = none) (hb : Below w.heap.size w w') : OfTPost t w (.returned (.tuple #[.nilIface, .int .i64 9])) w' := by
  unfold OfTPost; rw [hn]; exact ⟨rfl, hb⟩
theorem OfTPost.mkYes {t : Tr} {w w' : World} {tm : Tm} {v : Value} (hn : ofT t = some tm) (hv : TmAt w' (Fr w w') tm v) (hb : Below w.heap.size w w') : OfTPost t w (.returned (.tuple #[v, .int .i64 0])) w' := by
  unfold OfTPost; rw [hn]; exact ⟨v, rfl, hv, hb⟩

/-- the parts that are ready -/
structure Parts (w wr : World) (i : Nat) (ps : List Tm) (v0 v1 : Value) : Prop where
  one0 : v0.oneCell' = true
  one1 : v1.oneCell' = true
  i0 : 0 < i → ∃ u x, v0 = .iface u x
  i1 : 1 < i → ∃ u x, v1 = .iface u x
  p0 : 0 < i → TmAt wr (fun b => w.heap.size + 2 ≤ b ∧ b < wr.heap.size) (ps.getD 0 .odd) v0
  p1 : 1 < i → TmAt wr (fun b => w.heap.size + 2 ≤ b ∧ b < wr.heap.size) (ps.getD 1 .odd) v1

abbrev tTwo : TypeId := 83

def OfIH (ks : List Tr) : Prop := ∀ kd ∈ ks, ∀ (cs : List Value) (S : Nat → Prop) (w : World), (∀ b, S b → b < w.heap.size) → TreeAt w S kd cs → Sm kd → Calls Tryd.prog 12 #[.agg cs.toArray] w (OfTPost kd w)

set_option maxRecDepth 100000 in
set_option maxHeartbeats 4000000 in
theorem ofTerm_num (neg : Bool) (abs : List Nat) (name : ByteArray) (exp rel : Int) (truth all : Bool) (ks : List Tr) (ih : OfIH ks) (A1 : Option Addr) (n1 c1 : Nat) (A2 : Option Addr) (c2 : Nat) (xs : List Value) (S : Nat → Prop) (w : World) (hS : ∀ b, S b → b < w.heap.size)
    (hK : 0 = ks.length) (hKc : 0 ≤ c2) (hab : AbsAt w S (.slice A1 n1 c1) abs) (hs1 : abs.length ≤ 20) (hnm : name.size ≤ 40) (hks : SS w S 9 (.slice A2 0 c2) 0 xs) (htr : TrsC w S ks xs) (hsm : SmL ks) :
    Calls Tryd.prog 12 #[.agg #[.int .i64 1, .bool neg, .slice A1 n1 c1, .string name, .int .i64 exp, .int .i64 rel, .bool truth, .bool all, .slice A2 0 c2]] w (OfTPost (.mk ⟨1, neg, abs, name, exp, rel, truth, all⟩ ks) w) := by
  have IH := Lib.hid ih
  have HK := Lib.hid hK
  have HKS := Lib.hid hks
  have HTR := Lib.hid htr
  have HAB := Lib.hid hab
  have HSM := Lib.hid hsm
  have hx0 := (Box.new w #[.int .i64 1, .bool neg, .slice A1 n1 c1, .string name, .int .i64 exp, .int .i64 rel, .bool truth, .bool all, .slice A2 0 c2] TT).alloc (.cells #[.nilIface, .nilIface] tTwo)
  have hx1 := Box.second w (.cells #[.int .i64 1, .bool neg, .slice A1 n1 c1, .string name, .int .i64 exp, .int .i64 rel, .bool truth, .bool all, .slice A2 0 c2] TT) #[.nilIface, .nilIface] tTwo
  have HX0 := Lib.hid hx0
  have HX1 := Lib.hid hx1
  have HOF := Lib.hid (show ∀ ps, ofTs ks = some ps → ofT (.mk ⟨1, neg, abs, name, exp, rel, truth, all⟩ ks) = some (mkT ⟨1, neg, abs, name, exp, rel, truth, all⟩ ps) from fun ps hps => by unfold ofT; rw [if_pos (by simp [kidsT, ← hK]), hps]; rfl)
  have HON := Lib.hid (show ofTs ks = none → ofT (.mk ⟨1, neg, abs, name, exp, rel, truth, all⟩ ks) = none from fun hps => by unfold ofT; rw [hps]; simp)
  clear ih hK hks htr hab hsm hx0 hx1
  go_enter Tryd.func12, Tryd.ntmps12
  go_wp2
  go_loopw [40] (fun a_ wr => ∃ (i : Nat) (ps : List Tm) (v0 v1 : Value), i ≤ 0 ∧ a_ = .int .i64 i ∧ Box w wr w.heap.size #[.int .i64 1, .bool neg, .slice A1 n1 c1, .string name, .int .i64 exp, .int .i64 rel, .bool truth, .bool all, .slice A2 0 c2] TT ∧ Box w wr (w.heap.size + 1) #[v0, v1] tTwo ∧ Parts w wr i ps v0 v1 ∧ Hid (ofTs (ks.take i) = some ps)) (fun a_ _ => 0 - (intOf a_).toNat)
  case atStart => exact ⟨0, [], .nilIface, .nilIface, Nat.zero_le _, rfl, HX0.out, HX1.out, ⟨rfl, rfl, fun h => by omega, fun h => by omega, fun h => by omega, fun h => by omega⟩, Lib.hid (by simp [ofTs])⟩
  case round =>
    obtain ⟨i, ps, v0, v1, hi, rfl, hbox, hparts, hp, hrel⟩ := hrel
    have b1 : wr.cell? ⟨w.heap.size, 1, none⟩ = some (.bool neg) := hbox.cell 1
    have b2 : wr.cell? ⟨w.heap.size, 2, none⟩ = some (.slice A1 n1 c1) := hbox.cell 2
    have b0 : wr.cell? ⟨w.heap.size, 0, none⟩ = some (.int .i64 1) := hbox.cell 0
    have b3 : wr.cell? ⟨w.heap.size, 3, none⟩ = some (.string name) := hbox.cell 3
    have b4 : wr.cell? ⟨w.heap.size, 4, none⟩ = some (.int .i64 exp) := hbox.cell 4
    have b8 : wr.cell? ⟨w.heap.size, 8, none⟩ = some (.slice A2 0 c2) := hbox.cell 8
    obtain ⟨z0, z1⟩ := hparts.c2
    have hbel := hbox.below
    have hbs := hbel.size
    have hpl := hparts.lt
    have HB := Lib.hid hbox
    have HPB := Lib.hid hparts
    have o0 := hp.one0
    have o1 := hp.one1
    have HP := Lib.hid hp
    clear hbox hparts hp
    by_cases hlt : i < 0
    · omega
    · obtain rfl : i = 0 := by omega
      have hps : ofTs ks = some ps := by rw [← hrel.out, List.take_of_length_le (by have := HK.out; omega)]
      have HF := Lib.hid (HOF.out ps hps)
      have HPS := Lib.hid hps
      clear hps hrel
      obtain ⟨r, hr⟩ : ∃ r, r = normB neg abs := ⟨_, rfl⟩
      have HRR := Lib.hid hr
      clear hr
      have HNC := Lib.hid (normal_any neg abs (.slice A1 n1 c1) S wr (fun b hb => Nat.lt_of_lt_of_le (hS b hb) hbs) (HAB.out.below hS hbel) (by omega))
      go_wp2_with (go_at_call 32; refine HNC.out.mono ?_; intro e w3 hq; obtain ⟨A, n, c, rfl, hA, hb3⟩ := hq.named r HRR.out; clear hq; have HA := Lib.hid hA; clear hA)
      go_ret2
      refine OfTPost.mkYes HF.out ?_ (hbel.trans (hb3.mono hbs))
      show ∃ A n c, _ ∧ _
      exact ⟨A, n, c, by rw [HRR.out]; rfl, HA.out.more (fun b hb => ⟨by omega, hb.2⟩)⟩

set_option maxRecDepth 100000 in
set_option maxHeartbeats 4000000 in
theorem ofTerm_name (neg : Bool) (abs : List Nat) (name : ByteArray) (exp rel : Int) (truth all : Bool) (ks : List Tr) (ih : OfIH ks) (A1 : Option Addr) (n1 c1 : Nat) (A2 : Option Addr) (c2 : Nat) (xs : List Value) (S : Nat → Prop) (w : World) (hS : ∀ b, S b → b < w.heap.size)
    (hK : 0 = ks.length) (hKc : 0 ≤ c2) (hab : AbsAt w S (.slice A1 n1 c1) abs) (hs1 : abs.length ≤ 20) (hnm : name.size ≤ 40) (hks : SS w S 9 (.slice A2 0 c2) 0 xs) (htr : TrsC w S ks xs) (hsm : SmL ks) :
    Calls Tryd.prog 12 #[.agg #[.int .i64 2, .bool neg, .slice A1 n1 c1, .string name, .int .i64 exp, .int .i64 rel, .bool truth, .bool all, .slice A2 0 c2]] w (OfTPost (.mk ⟨2, neg, abs, name, exp, rel, truth, all⟩ ks) w) := by
  have IH := Lib.hid ih
  have HK := Lib.hid hK
  have HKS := Lib.hid hks
  have HTR := Lib.hid htr
  have HAB := Lib.hid hab
  have HSM := Lib.hid hsm
  have hx0 := (Box.new w #[.int .i64 2, .bool neg, .slice A1 n1 c1, .string name, .int .i64 exp, .int .i64 rel, .bool truth, .bool all, .slice A2 0 c2] TT).alloc (.cells #[.nilIface, .nilIface] tTwo)
  have hx1 := Box.second w (.cells #[.int .i64 2, .bool neg, .slice A1 n1 c1, .string name, .int .i64 exp, .int .i64 rel, .bool truth, .bool all, .slice A2 0 c2] TT) #[.nilIface, .nilIface] tTwo
  have HX0 := Lib.hid hx0
  have HX1 := Lib.hid hx1
  have HOF := Lib.hid (show ∀ ps, ofTs ks = some ps → ofT (.mk ⟨2, neg, abs, name, exp, rel, truth, all⟩ ks) = some (mkT ⟨2, neg, abs, name, exp, rel, truth, all⟩ ps) from fun ps hps => by unfold ofT; rw [if_pos (by simp [kidsT, ← hK]), hps]; rfl)
  have HON := Lib.hid (show ofTs ks = none → ofT (.mk ⟨2, neg, abs, name, exp, rel, truth, all⟩ ks) = none from fun hps => by unfold ofT; rw [hps]; simp)
  clear ih hK hks htr hab hsm hx0 hx1
  go_enter Tryd.func12, Tryd.ntmps12
  go_wp2
  go_loopw [40] (fun a_ wr => ∃ (i : Nat) (ps : List Tm) (v0 v1 : Value), i ≤ 0 ∧ a_ = .int .i64 i ∧ Box w wr w.heap.size #[.int .i64 2, .bool neg, .slice A1 n1 c1, .string name, .int .i64 exp, .int .i64 rel, .bool truth, .bool all, .slice A2 0 c2] TT ∧ Box w wr (w.heap.size + 1) #[v0, v1] tTwo ∧ Parts w wr i ps v0 v1 ∧ Hid (ofTs (ks.take i) = some ps)) (fun a_ _ => 0 - (intOf a_).toNat)
  case atStart => exact ⟨0, [], .nilIface, .nilIface, Nat.zero_le _, rfl, HX0.out, HX1.out, ⟨rfl, rfl, fun h => by omega, fun h => by omega, fun h => by omega, fun h => by omega⟩, Lib.hid (by simp [ofTs])⟩
  case round =>
    obtain ⟨i, ps, v0, v1, hi, rfl, hbox, hparts, hp, hrel⟩ := hrel
    have b1 : wr.cell? ⟨w.heap.size, 1, none⟩ = some (.bool neg) := hbox.cell 1
    have b2 : wr.cell? ⟨w.heap.size, 2, none⟩ = some (.slice A1 n1 c1) := hbox.cell 2
    have b0 : wr.cell? ⟨w.heap.size, 0, none⟩ = some (.int .i64 2) := hbox.cell 0
    have b3 : wr.cell? ⟨w.heap.size, 3, none⟩ = some (.string name) := hbox.cell 3
    have b4 : wr.cell? ⟨w.heap.size, 4, none⟩ = some (.int .i64 exp) := hbox.cell 4
    have b8 : wr.cell? ⟨w.heap.size, 8, none⟩ = some (.slice A2 0 c2) := hbox.cell 8
    obtain ⟨z0, z1⟩ := hparts.c2
    have hbel := hbox.below
    have hbs := hbel.size
    have hpl := hparts.lt
    have HB := Lib.hid hbox
    have HPB := Lib.hid hparts
    have o0 := hp.one0
    have o1 := hp.one1
    have HP := Lib.hid hp
    clear hbox hparts hp
    by_cases hlt : i < 0
    · omega
    · obtain rfl : i = 0 := by omega
      have hps : ofTs ks = some ps := by rw [← hrel.out, List.take_of_length_le (by have := HK.out; omega)]
      have HF := Lib.hid (HOF.out ps hps)
      have HPS := Lib.hid hps
      clear hps hrel
      go_wp2
      go_ret2
      refine OfTPost.mkYes HF.out ?_ hbel
      exact ⟨rfl, by show name.size ≤ _; omega⟩

set_option maxRecDepth 100000 in
set_option maxHeartbeats 4000000 in
theorem ofTerm_neg (neg : Bool) (abs : List Nat) (name : ByteArray) (exp rel : Int) (truth all : Bool) (ks : List Tr) (ih : OfIH ks) (A1 : Option Addr) (n1 c1 : Nat) (A2 : Option Addr) (c2 : Nat) (xs : List Value) (S : Nat → Prop) (w : World) (hS : ∀ b, S b → b < w.heap.size)
    (hK : 1 = ks.length) (hKc : 1 ≤ c2) (hab : AbsAt w S (.slice A1 n1 c1) abs) (hs1 : abs.length ≤ 20) (hnm : name.size ≤ 40) (hks : SS w S 9 (.slice A2 1 c2) 1 xs) (htr : TrsC w S ks xs) (hsm : SmL ks) :
    Calls Tryd.prog 12 #[.agg #[.int .i64 6, .bool neg, .slice A1 n1 c1, .string name, .int .i64 exp, .int .i64 rel, .bool truth, .bool all, .slice A2 1 c2]] w (OfTPost (.mk ⟨6, neg, abs, name, exp, rel, truth, all⟩ ks) w) := by
  have IH := Lib.hid ih
  have HK := Lib.hid hK
  have HKS := Lib.hid hks
  have HTR := Lib.hid htr
  have HAB := Lib.hid hab
  have HSM := Lib.hid hsm
  have hx0 := (Box.new w #[.int .i64 6, .bool neg, .slice A1 n1 c1, .string name, .int .i64 exp, .int .i64 rel, .bool truth, .bool all, .slice A2 1 c2] TT).alloc (.cells #[.nilIface, .nilIface] tTwo)
  have hx1 := Box.second w (.cells #[.int .i64 6, .bool neg, .slice A1 n1 c1, .string name, .int .i64 exp, .int .i64 rel, .bool truth, .bool all, .slice A2 1 c2] TT) #[.nilIface, .nilIface] tTwo
  have HX0 := Lib.hid hx0
  have HX1 := Lib.hid hx1
  have HOF := Lib.hid (show ∀ ps, ofTs ks = some ps → ofT (.mk ⟨6, neg, abs, name, exp, rel, truth, all⟩ ks) = some (mkT ⟨6, neg, abs, name, exp, rel, truth, all⟩ ps) from fun ps hps => by unfold ofT; rw [if_pos (by simp [kidsT, ← hK]), hps]; rfl)
  have HON := Lib.hid (show ofTs ks = none → ofT (.mk ⟨6, neg, abs, name, exp, rel, truth, all⟩ ks) = none from fun hps => by unfold ofT; rw [hps]; simp)
  clear ih hK hks htr hab hsm hx0 hx1
  go_enter Tryd.func12, Tryd.ntmps12
  go_wp2
  go_loopw [40] (fun a_ wr => ∃ (i : Nat) (ps : List Tm) (v0 v1 : Value), i ≤ 1 ∧ a_ = .int .i64 i ∧ Box w wr w.heap.size #[.int .i64 6, .bool neg, .slice A1 n1 c1, .string name, .int .i64 exp, .int .i64 rel, .bool truth, .bool all, .slice A2 1 c2] TT ∧ Box w wr (w.heap.size + 1) #[v0, v1] tTwo ∧ Parts w wr i ps v0 v1 ∧ Hid (ofTs (ks.take i) = some ps)) (fun a_ _ => 1 - (intOf a_).toNat)
  case atStart => exact ⟨0, [], .nilIface, .nilIface, Nat.zero_le _, rfl, HX0.out, HX1.out, ⟨rfl, rfl, fun h => by omega, fun h => by omega, fun h => by omega, fun h => by omega⟩, Lib.hid (by simp [ofTs])⟩
  case round =>
    obtain ⟨i, ps, v0, v1, hi, rfl, hbox, hparts, hp, hrel⟩ := hrel
    have b1 : wr.cell? ⟨w.heap.size, 1, none⟩ = some (.bool neg) := hbox.cell 1
    have b2 : wr.cell? ⟨w.heap.size, 2, none⟩ = some (.slice A1 n1 c1) := hbox.cell 2
    have b0 : wr.cell? ⟨w.heap.size, 0, none⟩ = some (.int .i64 6) := hbox.cell 0
    have b3 : wr.cell? ⟨w.heap.size, 3, none⟩ = some (.string name) := hbox.cell 3
    have b4 : wr.cell? ⟨w.heap.size, 4, none⟩ = some (.int .i64 exp) := hbox.cell 4
    have b8 : wr.cell? ⟨w.heap.size, 8, none⟩ = some (.slice A2 1 c2) := hbox.cell 8
    obtain ⟨z0, z1⟩ := hparts.c2
    have hbel := hbox.below
    have hbs := hbel.size
    have hpl := hparts.lt
    have HB := Lib.hid hbox
    have HPB := Lib.hid hparts
    have o0 := hp.one0
    have o1 := hp.one1
    have HP := Lib.hid hp
    clear hbox hparts hp
    by_cases hlt : i < 1
    · obtain ⟨kd, b, o, B1, m1, e1', B2, m2, e2', hkd, rfl, hb, hT, g0, g1, g2, g3, g4, g5, g6, g7, g8⟩ := kid_cells (HKS.out.below hS hbel) (HTR.out.below hS hbel) HK.out i hlt
      have hal : Below wr.heap.size wr (wr.alloc (.cells (hdC kd.h (.slice B1 m1 e1') (.slice B2 m2 e2')).toArray TT)) := (Below.refl _ wr).alloc (Nat.le_refl _) _
      have has : (wr.alloc (.cells (hdC kd.h (.slice B1 m1 e1') (.slice B2 m2 e2')).toArray TT)).heap.size = wr.heap.size + 1 := by simp
      have hC := IH.out kd (mem_at hkd) _ S (wr.alloc (.cells (hdC kd.h (.slice B1 m1 e1') (.slice B2 m2 e2')).toArray TT)) (fun b hb => by have := hS b hb; omega) (hT.below (fun b hb => Nat.lt_of_lt_of_le (hS b hb) hbs) hal) (SmL.at_ HSM.out hkd)
      have HC := Lib.hid hC
      have HAS := Lib.hid has
      have HBx := Lib.hid (show ∀ w2, Below (wr.alloc (.cells (hdC kd.h (.slice B1 m1 e1') (.slice B2 m2 e2')).toArray TT)).heap.size (wr.alloc (.cells (hdC kd.h (.slice B1 m1 e1') (.slice B2 m2 e2')).toArray TT)) w2 → Box w w2 w.heap.size #[.int .i64 6, .bool neg, .slice A1 n1 c1, .string name, .int .i64 exp, .int .i64 rel, .bool truth, .bool all, .slice (some ⟨b, o, none⟩) 1 c2] TT ∧ Box w w2 (w.heap.size + 1) #[v0, v1] tTwo ∧ Below wr.heap.size wr w2 from
        fun w2 hb2 => ⟨(HB.out.alloc _).step hb2, (HPB.out.alloc _).step hb2, hal.trans (hb2.mono (by omega))⟩)
      have HKD := Lib.hid hkd
      clear hC hb hT has hal hkd
      unfold hdC at HC HBx HAS
      cases hof : ofT kd with
      | none =>
        have HOFK := Lib.hid hof
        have HN := Lib.hid (HON.out (ofTs_none_at HKD.out hof))
        clear hof
        go_wp2_with (go_at_call 12; refine HC.out.mono ?_; intro e w2 hq; obtain ⟨rfl, hb2⟩ := hq.no HOFK.out; clear hq)
        go_ret2
        exact OfTPost.mkNo HN.out (HBx.out _ hb2).1.below
      | some p =>
        have HOFK := Lib.hid hof
        have HST := Lib.hid (show ofTs (ks.take (i + 1)) = some (ps ++ [p]) by
          obtain ⟨hi', he⟩ := List.getElem?_eq_some_iff.1 HKD.out
          rw [List.take_succ_eq_append_getElem hi', he, ofTs_snoc, hrel.out]
          show (ofT kd).map _ = _
          rw [hof]; rfl)
        have hpl2 : ps.length = i := by rw [ofTs_len hrel.out, List.length_take]; have := HK.out; omega
        have HNE := Lib.hid (ofT_ne hof)
        clear hof
        obtain rfl : i = 0 := by omega
        simp only [Nat.zero_mul, Nat.add_zero] at g0 g1 g2 g3 g4 g5 g6 g7 g8
        go_wp2_with (go_at_call 12; refine HC.out.mono ?_; intro e w2 hq; obtain ⟨v, rfl, hv, hb2⟩ := hq.yes HOFK.out; clear hq; obtain ⟨uu, xx, rfl⟩ := hv.iface HNE.out; have HV := Lib.hid hv; clear hv; obtain ⟨q0, q1, q2⟩ := HBx.out _ hb2; obtain ⟨y0, y1⟩ := q1.c2; have yf := q1.fz; have Q0 := Lib.hid q0; have Q1 := Lib.hid q1; have Q2 := Lib.hid q2; clear q0 q1 q2)
        go_roundw
        case rel =>
          have hss := HAS.out; have hb2s := hb2.size; have q2s := Q2.out.size
          have hvv : TmAt (w2.setCell ⟨w.heap.size + 1, 0, none⟩ (.iface uu xx)) (fun b => w.heap.size + 2 ≤ b ∧ b < (w2.setCell ⟨w.heap.size + 1, 0, none⟩ (.iface uu xx)).heap.size) p (.iface uu xx) := TmAt.more (fun b hb => by refine ⟨by omega, by simp; omega⟩) _ _ (HV.out.setCell _ (by omega))
          refine ⟨1, ps ++ [p], .iface uu xx, v1, by omega, rfl, Q0.out.setOther (by omega) _, Q1.out.set0 (by omega) _, ⟨rfl, o1, fun _ => ⟨_, _, rfl⟩, fun h => by omega, fun _ => ?_, fun h => by omega⟩, HST⟩
          rw [show (ps ++ [p]).getD 0 Tm.odd = p by rw [List.eq_nil_of_length_eq_zero hpl2]; rfl]; exact hvv
        case measure => simp [intOf]
    · obtain rfl : i = 1 := by omega
      have hps : ofTs ks = some ps := by rw [← hrel.out, List.take_of_length_le (by have := HK.out; omega)]
      have HF := Lib.hid (HOF.out ps hps)
      have HPS := Lib.hid hps
      clear hps hrel
      obtain ⟨u0, x0, rfl⟩ := HP.out.i0 (by omega)
      go_wp2
      go_ret2
      refine OfTPost.mkYes HF.out ?_ hbel
      exact ⟨_, rfl, TmAt.more (fun b hb => ⟨by omega, hb.2⟩) _ _ (HP.out.p0 (by omega))⟩

set_option maxRecDepth 100000 in
set_option maxHeartbeats 4000000 in
theorem ofTerm_pow (neg : Bool) (abs : List Nat) (name : ByteArray) (exp rel : Int) (truth all : Bool) (ks : List Tr) (ih : OfIH ks) (A1 : Option Addr) (n1 c1 : Nat) (A2 : Option Addr) (c2 : Nat) (xs : List Value) (S : Nat → Prop) (w : World) (hS : ∀ b, S b → b < w.heap.size)
    (hK : 1 = ks.length) (hKc : 1 ≤ c2) (hab : AbsAt w S (.slice A1 n1 c1) abs) (hs1 : abs.length ≤ 20) (hnm : name.size ≤ 40) (hks : SS w S 9 (.slice A2 1 c2) 1 xs) (htr : TrsC w S ks xs) (hsm : SmL ks) (hexp : 0 ≤ exp) :
    Calls Tryd.prog 12 #[.agg #[.int .i64 7, .bool neg, .slice A1 n1 c1, .string name, .int .i64 exp, .int .i64 rel, .bool truth, .bool all, .slice A2 1 c2]] w (OfTPost (.mk ⟨7, neg, abs, name, exp, rel, truth, all⟩ ks) w) := by
  have IH := Lib.hid ih
  have HK := Lib.hid hK
  have HKS := Lib.hid hks
  have HTR := Lib.hid htr
  have HAB := Lib.hid hab
  have HSM := Lib.hid hsm
  have hx0 := (Box.new w #[.int .i64 7, .bool neg, .slice A1 n1 c1, .string name, .int .i64 exp, .int .i64 rel, .bool truth, .bool all, .slice A2 1 c2] TT).alloc (.cells #[.nilIface, .nilIface] tTwo)
  have hx1 := Box.second w (.cells #[.int .i64 7, .bool neg, .slice A1 n1 c1, .string name, .int .i64 exp, .int .i64 rel, .bool truth, .bool all, .slice A2 1 c2] TT) #[.nilIface, .nilIface] tTwo
  have HX0 := Lib.hid hx0
  have HX1 := Lib.hid hx1
  have HOF := Lib.hid (show ∀ ps, ofTs ks = some ps → ofT (.mk ⟨7, neg, abs, name, exp, rel, truth, all⟩ ks) = some (mkT ⟨7, neg, abs, name, exp, rel, truth, all⟩ ps) from fun ps hps => by unfold ofT; rw [if_pos (by simp [kidsT, ← hK]; omega), hps]; rfl)
  have HON := Lib.hid (show ofTs ks = none → ofT (.mk ⟨7, neg, abs, name, exp, rel, truth, all⟩ ks) = none from fun hps => by unfold ofT; rw [hps]; simp)
  clear ih hK hks htr hab hsm hx0 hx1
  go_enter Tryd.func12, Tryd.ntmps12
  go_wp2
  go_loopw [40] (fun a_ wr => ∃ (i : Nat) (ps : List Tm) (v0 v1 : Value), i ≤ 1 ∧ a_ = .int .i64 i ∧ Box w wr w.heap.size #[.int .i64 7, .bool neg, .slice A1 n1 c1, .string name, .int .i64 exp, .int .i64 rel, .bool truth, .bool all, .slice A2 1 c2] TT ∧ Box w wr (w.heap.size + 1) #[v0, v1] tTwo ∧ Parts w wr i ps v0 v1 ∧ Hid (ofTs (ks.take i) = some ps)) (fun a_ _ => 1 - (intOf a_).toNat)
  case atStart => exact ⟨0, [], .nilIface, .nilIface, Nat.zero_le _, rfl, HX0.out, HX1.out, ⟨rfl, rfl, fun h => by omega, fun h => by omega, fun h => by omega, fun h => by omega⟩, Lib.hid (by simp [ofTs])⟩
  case round =>
    obtain ⟨i, ps, v0, v1, hi, rfl, hbox, hparts, hp, hrel⟩ := hrel
    have b1 : wr.cell? ⟨w.heap.size, 1, none⟩ = some (.bool neg) := hbox.cell 1
    have b2 : wr.cell? ⟨w.heap.size, 2, none⟩ = some (.slice A1 n1 c1) := hbox.cell 2
    have b0 : wr.cell? ⟨w.heap.size, 0, none⟩ = some (.int .i64 7) := hbox.cell 0
    have b3 : wr.cell? ⟨w.heap.size, 3, none⟩ = some (.string name) := hbox.cell 3
    have b4 : wr.cell? ⟨w.heap.size, 4, none⟩ = some (.int .i64 exp) := hbox.cell 4
    have b8 : wr.cell? ⟨w.heap.size, 8, none⟩ = some (.slice A2 1 c2) := hbox.cell 8
    obtain ⟨z0, z1⟩ := hparts.c2
    have hbel := hbox.below
    have hbs := hbel.size
    have hpl := hparts.lt
    have HB := Lib.hid hbox
    have HPB := Lib.hid hparts
    have o0 := hp.one0
    have o1 := hp.one1
    have HP := Lib.hid hp
    clear hbox hparts hp
    by_cases hlt : i < 1
    · obtain ⟨kd, b, o, B1, m1, e1', B2, m2, e2', hkd, rfl, hb, hT, g0, g1, g2, g3, g4, g5, g6, g7, g8⟩ := kid_cells (HKS.out.below hS hbel) (HTR.out.below hS hbel) HK.out i hlt
      have hal : Below wr.heap.size wr (wr.alloc (.cells (hdC kd.h (.slice B1 m1 e1') (.slice B2 m2 e2')).toArray TT)) := (Below.refl _ wr).alloc (Nat.le_refl _) _
      have has : (wr.alloc (.cells (hdC kd.h (.slice B1 m1 e1') (.slice B2 m2 e2')).toArray TT)).heap.size = wr.heap.size + 1 := by simp
      have hC := IH.out kd (mem_at hkd) _ S (wr.alloc (.cells (hdC kd.h (.slice B1 m1 e1') (.slice B2 m2 e2')).toArray TT)) (fun b hb => by have := hS b hb; omega) (hT.below (fun b hb => Nat.lt_of_lt_of_le (hS b hb) hbs) hal) (SmL.at_ HSM.out hkd)
      have HC := Lib.hid hC
      have HAS := Lib.hid has
      have HBx := Lib.hid (show ∀ w2, Below (wr.alloc (.cells (hdC kd.h (.slice B1 m1 e1') (.slice B2 m2 e2')).toArray TT)).heap.size (wr.alloc (.cells (hdC kd.h (.slice B1 m1 e1') (.slice B2 m2 e2')).toArray TT)) w2 → Box w w2 w.heap.size #[.int .i64 7, .bool neg, .slice A1 n1 c1, .string name, .int .i64 exp, .int .i64 rel, .bool truth, .bool all, .slice (some ⟨b, o, none⟩) 1 c2] TT ∧ Box w w2 (w.heap.size + 1) #[v0, v1] tTwo ∧ Below wr.heap.size wr w2 from
        fun w2 hb2 => ⟨(HB.out.alloc _).step hb2, (HPB.out.alloc _).step hb2, hal.trans (hb2.mono (by omega))⟩)
      have HKD := Lib.hid hkd
      clear hC hb hT has hal hkd
      unfold hdC at HC HBx HAS
      cases hof : ofT kd with
      | none =>
        have HOFK := Lib.hid hof
        have HN := Lib.hid (HON.out (ofTs_none_at HKD.out hof))
        clear hof
        go_wp2_with (go_at_call 12; refine HC.out.mono ?_; intro e w2 hq; obtain ⟨rfl, hb2⟩ := hq.no HOFK.out; clear hq)
        go_ret2
        exact OfTPost.mkNo HN.out (HBx.out _ hb2).1.below
      | some p =>
        have HOFK := Lib.hid hof
        have HST := Lib.hid (show ofTs (ks.take (i + 1)) = some (ps ++ [p]) by
          obtain ⟨hi', he⟩ := List.getElem?_eq_some_iff.1 HKD.out
          rw [List.take_succ_eq_append_getElem hi', he, ofTs_snoc, hrel.out]
          show (ofT kd).map _ = _
          rw [hof]; rfl)
        have hpl2 : ps.length = i := by rw [ofTs_len hrel.out, List.length_take]; have := HK.out; omega
        have HNE := Lib.hid (ofT_ne hof)
        clear hof
        obtain rfl : i = 0 := by omega
        simp only [Nat.zero_mul, Nat.add_zero] at g0 g1 g2 g3 g4 g5 g6 g7 g8
        go_wp2_with (go_at_call 12; refine HC.out.mono ?_; intro e w2 hq; obtain ⟨v, rfl, hv, hb2⟩ := hq.yes HOFK.out; clear hq; obtain ⟨uu, xx, rfl⟩ := hv.iface HNE.out; have HV := Lib.hid hv; clear hv; obtain ⟨q0, q1, q2⟩ := HBx.out _ hb2; obtain ⟨y0, y1⟩ := q1.c2; have yf := q1.fz; have Q0 := Lib.hid q0; have Q1 := Lib.hid q1; have Q2 := Lib.hid q2; clear q0 q1 q2)
        go_roundw
        case rel =>
          have hss := HAS.out; have hb2s := hb2.size; have q2s := Q2.out.size
          have hvv : TmAt (w2.setCell ⟨w.heap.size + 1, 0, none⟩ (.iface uu xx)) (fun b => w.heap.size + 2 ≤ b ∧ b < (w2.setCell ⟨w.heap.size + 1, 0, none⟩ (.iface uu xx)).heap.size) p (.iface uu xx) := TmAt.more (fun b hb => by refine ⟨by omega, by simp; omega⟩) _ _ (HV.out.setCell _ (by omega))
          refine ⟨1, ps ++ [p], .iface uu xx, v1, by omega, rfl, Q0.out.setOther (by omega) _, Q1.out.set0 (by omega) _, ⟨rfl, o1, fun _ => ⟨_, _, rfl⟩, fun h => by omega, fun _ => ?_, fun h => by omega⟩, HST⟩
          rw [show (ps ++ [p]).getD 0 Tm.odd = p by rw [List.eq_nil_of_length_eq_zero hpl2]; rfl]; exact hvv
        case measure => simp [intOf]
    · obtain rfl : i = 1 := by omega
      have hps : ofTs ks = some ps := by rw [← hrel.out, List.take_of_length_le (by have := HK.out; omega)]
      have HF := Lib.hid (HOF.out ps hps)
      have HPS := Lib.hid hps
      clear hps hrel
      obtain ⟨u0, x0, rfl⟩ := HP.out.i0 (by omega)
      go_wp2
      go_ret2
      refine OfTPost.mkYes HF.out ?_ hbel
      exact ⟨_, rfl, TmAt.more (fun b hb => ⟨by omega, hb.2⟩) _ _ (HP.out.p0 (by omega))⟩

set_option maxRecDepth 100000 in
set_option maxHeartbeats 4000000 in
theorem ofTerm_add (neg : Bool) (abs : List Nat) (name : ByteArray) (exp rel : Int) (truth all : Bool) (ks : List Tr) (ih : OfIH ks) (A1 : Option Addr) (n1 c1 : Nat) (A2 : Option Addr) (c2 : Nat) (xs : List Value) (S : Nat → Prop) (w : World) (hS : ∀ b, S b → b < w.heap.size)
    (hK : 2 = ks.length) (hKc : 2 ≤ c2) (hab : AbsAt w S (.slice A1 n1 c1) abs) (hs1 : abs.length ≤ 20) (hnm : name.size ≤ 40) (hks : SS w S 9 (.slice A2 2 c2) 2 xs) (htr : TrsC w S ks xs) (hsm : SmL ks) :
    Calls Tryd.prog 12 #[.agg #[.int .i64 3, .bool neg, .slice A1 n1 c1, .string name, .int .i64 exp, .int .i64 rel, .bool truth, .bool all, .slice A2 2 c2]] w (OfTPost (.mk ⟨3, neg, abs, name, exp, rel, truth, all⟩ ks) w) := by
  have IH := Lib.hid ih
  have HK := Lib.hid hK
  have HKS := Lib.hid hks
  have HTR := Lib.hid htr
  have HAB := Lib.hid hab
  have HSM := Lib.hid hsm
  have hx0 := (Box.new w #[.int .i64 3, .bool neg, .slice A1 n1 c1, .string name, .int .i64 exp, .int .i64 rel, .bool truth, .bool all, .slice A2 2 c2] TT).alloc (.cells #[.nilIface, .nilIface] tTwo)
  have hx1 := Box.second w (.cells #[.int .i64 3, .bool neg, .slice A1 n1 c1, .string name, .int .i64 exp, .int .i64 rel, .bool truth, .bool all, .slice A2 2 c2] TT) #[.nilIface, .nilIface] tTwo
  have HX0 := Lib.hid hx0
  have HX1 := Lib.hid hx1
  have HOF := Lib.hid (show ∀ ps, ofTs ks = some ps → ofT (.mk ⟨3, neg, abs, name, exp, rel, truth, all⟩ ks) = some (mkT ⟨3, neg, abs, name, exp, rel, truth, all⟩ ps) from fun ps hps => by unfold ofT; rw [if_pos (by simp [kidsT, ← hK]), hps]; rfl)
  have HON := Lib.hid (show ofTs ks = none → ofT (.mk ⟨3, neg, abs, name, exp, rel, truth, all⟩ ks) = none from fun hps => by unfold ofT; rw [hps]; simp)
  clear ih hK hks htr hab hsm hx0 hx1
  go_enter Tryd.func12, Tryd.ntmps12
  go_wp2
  go_loopw [40] (fun a_ wr => ∃ (i : Nat) (ps : List Tm) (v0 v1 : Value), i ≤ 2 ∧ a_ = .int .i64 i ∧ Box w wr w.heap.size #[.int .i64 3, .bool neg, .slice A1 n1 c1, .string name, .int .i64 exp, .int .i64 rel, .bool truth, .bool all, .slice A2 2 c2] TT ∧ Box w wr (w.heap.size + 1) #[v0, v1] tTwo ∧ Parts w wr i ps v0 v1 ∧ Hid (ofTs (ks.take i) = some ps)) (fun a_ _ => 2 - (intOf a_).toNat)
  case atStart => exact ⟨0, [], .nilIface, .nilIface, Nat.zero_le _, rfl, HX0.out, HX1.out, ⟨rfl, rfl, fun h => by omega, fun h => by omega, fun h => by omega, fun h => by omega⟩, Lib.hid (by simp [ofTs])⟩
  case round =>
    obtain ⟨i, ps, v0, v1, hi, rfl, hbox, hparts, hp, hrel⟩ := hrel
    have b1 : wr.cell? ⟨w.heap.size, 1, none⟩ = some (.bool neg) := hbox.cell 1
    have b2 : wr.cell? ⟨w.heap.size, 2, none⟩ = some (.slice A1 n1 c1) := hbox.cell 2
    have b0 : wr.cell? ⟨w.heap.size, 0, none⟩ = some (.int .i64 3) := hbox.cell 0
    have b3 : wr.cell? ⟨w.heap.size, 3, none⟩ = some (.string name) := hbox.cell 3
    have b4 : wr.cell? ⟨w.heap.size, 4, none⟩ = some (.int .i64 exp) := hbox.cell 4
    have b8 : wr.cell? ⟨w.heap.size, 8, none⟩ = some (.slice A2 2 c2) := hbox.cell 8
    obtain ⟨z0, z1⟩ := hparts.c2
    have hbel := hbox.below
    have hbs := hbel.size
    have hpl := hparts.lt
    have HB := Lib.hid hbox
    have HPB := Lib.hid hparts
    have o0 := hp.one0
    have o1 := hp.one1
    have HP := Lib.hid hp
    clear hbox hparts hp
    by_cases hlt : i < 2
    · obtain ⟨kd, b, o, B1, m1, e1', B2, m2, e2', hkd, rfl, hb, hT, g0, g1, g2, g3, g4, g5, g6, g7, g8⟩ := kid_cells (HKS.out.below hS hbel) (HTR.out.below hS hbel) HK.out i hlt
      have hal : Below wr.heap.size wr (wr.alloc (.cells (hdC kd.h (.slice B1 m1 e1') (.slice B2 m2 e2')).toArray TT)) := (Below.refl _ wr).alloc (Nat.le_refl _) _
      have has : (wr.alloc (.cells (hdC kd.h (.slice B1 m1 e1') (.slice B2 m2 e2')).toArray TT)).heap.size = wr.heap.size + 1 := by simp
      have hC := IH.out kd (mem_at hkd) _ S (wr.alloc (.cells (hdC kd.h (.slice B1 m1 e1') (.slice B2 m2 e2')).toArray TT)) (fun b hb => by have := hS b hb; omega) (hT.below (fun b hb => Nat.lt_of_lt_of_le (hS b hb) hbs) hal) (SmL.at_ HSM.out hkd)
      have HC := Lib.hid hC
      have HAS := Lib.hid has
      have HBx := Lib.hid (show ∀ w2, Below (wr.alloc (.cells (hdC kd.h (.slice B1 m1 e1') (.slice B2 m2 e2')).toArray TT)).heap.size (wr.alloc (.cells (hdC kd.h (.slice B1 m1 e1') (.slice B2 m2 e2')).toArray TT)) w2 → Box w w2 w.heap.size #[.int .i64 3, .bool neg, .slice A1 n1 c1, .string name, .int .i64 exp, .int .i64 rel, .bool truth, .bool all, .slice (some ⟨b, o, none⟩) 2 c2] TT ∧ Box w w2 (w.heap.size + 1) #[v0, v1] tTwo ∧ Below wr.heap.size wr w2 from
        fun w2 hb2 => ⟨(HB.out.alloc _).step hb2, (HPB.out.alloc _).step hb2, hal.trans (hb2.mono (by omega))⟩)
      have HKD := Lib.hid hkd
      clear hC hb hT has hal hkd
      unfold hdC at HC HBx HAS
      cases hof : ofT kd with
      | none =>
        have HOFK := Lib.hid hof
        have HN := Lib.hid (HON.out (ofTs_none_at HKD.out hof))
        clear hof
        go_wp2_with (go_at_call 12; refine HC.out.mono ?_; intro e w2 hq; obtain ⟨rfl, hb2⟩ := hq.no HOFK.out; clear hq)
        go_ret2
        exact OfTPost.mkNo HN.out (HBx.out _ hb2).1.below
      | some p =>
        have HOFK := Lib.hid hof
        have HST := Lib.hid (show ofTs (ks.take (i + 1)) = some (ps ++ [p]) by
          obtain ⟨hi', he⟩ := List.getElem?_eq_some_iff.1 HKD.out
          rw [List.take_succ_eq_append_getElem hi', he, ofTs_snoc, hrel.out]
          show (ofT kd).map _ = _
          rw [hof]; rfl)
        have hpl2 : ps.length = i := by rw [ofTs_len hrel.out, List.length_take]; have := HK.out; omega
        have HNE := Lib.hid (ofT_ne hof)
        clear hof
        rcases (show i = 0 ∨ i = 1 by omega) with rfl | rfl
        · simp only [Nat.zero_mul, Nat.add_zero, Nat.one_mul] at g0 g1 g2 g3 g4 g5 g6 g7 g8
          go_wp2_with (go_at_call 12; refine HC.out.mono ?_; intro e w2 hq; obtain ⟨v, rfl, hv, hb2⟩ := hq.yes HOFK.out; clear hq; obtain ⟨uu, xx, rfl⟩ := hv.iface HNE.out; have HV := Lib.hid hv; clear hv; obtain ⟨q0, q1, q2⟩ := HBx.out _ hb2; obtain ⟨y0, y1⟩ := q1.c2; have yf := q1.fz; have Q0 := Lib.hid q0; have Q1 := Lib.hid q1; have Q2 := Lib.hid q2; clear q0 q1 q2)
          go_roundw
          case rel =>
            have hss := HAS.out; have hb2s := hb2.size; have q2s := Q2.out.size
            have hvv : TmAt (w2.setCell ⟨w.heap.size + 1, 0, none⟩ (.iface uu xx)) (fun b => w.heap.size + 2 ≤ b ∧ b < (w2.setCell ⟨w.heap.size + 1, 0, none⟩ (.iface uu xx)).heap.size) p (.iface uu xx) := TmAt.more (fun b hb => by refine ⟨by omega, by simp; omega⟩) _ _ (HV.out.setCell _ (by omega))
            refine ⟨1, ps ++ [p], .iface uu xx, v1, by omega, rfl, Q0.out.setOther (by omega) _, Q1.out.set0 (by omega) _, ⟨rfl, o1, fun _ => ⟨_, _, rfl⟩, fun h => by omega, fun _ => ?_, fun h => by omega⟩, HST⟩
            rw [show (ps ++ [p]).getD 0 Tm.odd = p by rw [List.eq_nil_of_length_eq_zero hpl2]; rfl]; exact hvv
          case measure => simp [intOf]
        · simp only [Nat.zero_mul, Nat.add_zero, Nat.one_mul] at g0 g1 g2 g3 g4 g5 g6 g7 g8
          go_wp2_with (go_at_call 12; refine HC.out.mono ?_; intro e w2 hq; obtain ⟨v, rfl, hv, hb2⟩ := hq.yes HOFK.out; clear hq; obtain ⟨uu, xx, rfl⟩ := hv.iface HNE.out; have HV := Lib.hid hv; clear hv; obtain ⟨q0, q1, q2⟩ := HBx.out _ hb2; obtain ⟨y0, y1⟩ := q1.c2; have yf := q1.fz; have Q0 := Lib.hid q0; have Q1 := Lib.hid q1; have Q2 := Lib.hid q2; clear q0 q1 q2)
          go_roundw
          case rel =>
            have hss := HAS.out; have hb2s := hb2.size; have q2s := Q2.out.size
            have hvv : TmAt (w2.setCell ⟨w.heap.size + 1, 1, none⟩ (.iface uu xx)) (fun b => w.heap.size + 2 ≤ b ∧ b < (w2.setCell ⟨w.heap.size + 1, 1, none⟩ (.iface uu xx)).heap.size) p (.iface uu xx) := TmAt.more (fun b hb => by refine ⟨by omega, by simp; omega⟩) _ _ (HV.out.setCell _ (by omega))
            refine ⟨2, ps ++ [p], v0, .iface uu xx, by omega, rfl, Q0.out.setOther (by omega) _, Q1.out.set1 (by omega) _, ⟨o0, rfl, fun _ => HP.out.i0 (by omega), fun _ => ⟨_, _, rfl⟩, fun _ => ?_, fun _ => ?_⟩, HST⟩
            · rw [show (ps ++ [p]).getD 0 Tm.odd = ps.getD 0 Tm.odd by rw [List.getD_eq_getElem?_getD, List.getD_eq_getElem?_getD, List.getElem?_append_left (by omega)]]
              exact TmAt.more (fun b hb => ⟨hb.1, by simp; omega⟩) _ _ (((HP.out.p0 (by omega)).below (fun b hb => hb.2) Q2.out).setCell _ (by omega))
            · rw [show (ps ++ [p]).getD 1 Tm.odd = p by simp [List.getD, hpl2]]; exact hvv
          case measure => simp [intOf]
    · obtain rfl : i = 2 := by omega
      have hps : ofTs ks = some ps := by rw [← hrel.out, List.take_of_length_le (by have := HK.out; omega)]
      have HF := Lib.hid (HOF.out ps hps)
      have HPS := Lib.hid hps
      clear hps hrel
      obtain ⟨u0, x0, rfl⟩ := HP.out.i0 (by omega)
      obtain ⟨u1, x1, rfl⟩ := HP.out.i1 (by omega)
      go_wp2
      go_ret2
      refine OfTPost.mkYes HF.out ?_ hbel
      exact ⟨_, _, rfl, TmAt.more (fun b hb => ⟨by omega, hb.2⟩) _ _ (HP.out.p0 (by omega)), TmAt.more (fun b hb => ⟨by omega, hb.2⟩) _ _ (HP.out.p1 (by omega))⟩

set_option maxRecDepth 100000 in
set_option maxHeartbeats 4000000 in
theorem ofTerm_sub (neg : Bool) (abs : List Nat) (name : ByteArray) (exp rel : Int) (truth all : Bool) (ks : List Tr) (ih : OfIH ks) (A1 : Option Addr) (n1 c1 : Nat) (A2 : Option Addr) (c2 : Nat) (xs : List Value) (S : Nat → Prop) (w : World) (hS : ∀ b, S b → b < w.heap.size)
    (hK : 2 = ks.length) (hKc : 2 ≤ c2) (hab : AbsAt w S (.slice A1 n1 c1) abs) (hs1 : abs.length ≤ 20) (hnm : name.size ≤ 40) (hks : SS w S 9 (.slice A2 2 c2) 2 xs) (htr : TrsC w S ks xs) (hsm : SmL ks) :
    Calls Tryd.prog 12 #[.agg #[.int .i64 4, .bool neg, .slice A1 n1 c1, .string name, .int .i64 exp, .int .i64 rel, .bool truth, .bool all, .slice A2 2 c2]] w (OfTPost (.mk ⟨4, neg, abs, name, exp, rel, truth, all⟩ ks) w) := by
  have IH := Lib.hid ih
  have HK := Lib.hid hK
  have HKS := Lib.hid hks
  have HTR := Lib.hid htr
  have HAB := Lib.hid hab
  have HSM := Lib.hid hsm
  have hx0 := (Box.new w #[.int .i64 4, .bool neg, .slice A1 n1 c1, .string name, .int .i64 exp, .int .i64 rel, .bool truth, .bool all, .slice A2 2 c2] TT).alloc (.cells #[.nilIface, .nilIface] tTwo)
  have hx1 := Box.second w (.cells #[.int .i64 4, .bool neg, .slice A1 n1 c1, .string name, .int .i64 exp, .int .i64 rel, .bool truth, .bool all, .slice A2 2 c2] TT) #[.nilIface, .nilIface] tTwo
  have HX0 := Lib.hid hx0
  have HX1 := Lib.hid hx1
  have HOF := Lib.hid (show ∀ ps, ofTs ks = some ps → ofT (.mk ⟨4, neg, abs, name, exp, rel, truth, all⟩ ks) = some (mkT ⟨4, neg, abs, name, exp, rel, truth, all⟩ ps) from fun ps hps => by unfold ofT; rw [if_pos (by simp [kidsT, ← hK]), hps]; rfl)
  have HON := Lib.hid (show ofTs ks = none → ofT (.mk ⟨4, neg, abs, name, exp, rel, truth, all⟩ ks) = none from fun hps => by unfold ofT; rw [hps]; simp)
  clear ih hK hks htr hab hsm hx0 hx1
  go_enter Tryd.func12, Tryd.ntmps12
  go_wp2
  go_loopw [40] (fun a_ wr => ∃ (i : Nat) (ps : List Tm) (v0 v1 : Value), i ≤ 2 ∧ a_ = .int .i64 i ∧ Box w wr w.heap.size #[.int .i64 4, .bool neg, .slice A1 n1 c1, .string name, .int .i64 exp, .int .i64 rel, .bool truth, .bool all, .slice A2 2 c2] TT ∧ Box w wr (w.heap.size + 1) #[v0, v1] tTwo ∧ Parts w wr i ps v0 v1 ∧ Hid (ofTs (ks.take i) = some ps)) (fun a_ _ => 2 - (intOf a_).toNat)
  case atStart => exact ⟨0, [], .nilIface, .nilIface, Nat.zero_le _, rfl, HX0.out, HX1.out, ⟨rfl, rfl, fun h => by omega, fun h => by omega, fun h => by omega, fun h => by omega⟩, Lib.hid (by simp [ofTs])⟩
  case round =>
    obtain ⟨i, ps, v0, v1, hi, rfl, hbox, hparts, hp, hrel⟩ := hrel
    have b1 : wr.cell? ⟨w.heap.size, 1, none⟩ = some (.bool neg) := hbox.cell 1
    have b2 : wr.cell? ⟨w.heap.size, 2, none⟩ = some (.slice A1 n1 c1) := hbox.cell 2
    have b0 : wr.cell? ⟨w.heap.size, 0, none⟩ = some (.int .i64 4) := hbox.cell 0
    have b3 : wr.cell? ⟨w.heap.size, 3, none⟩ = some (.string name) := hbox.cell 3
    have b4 : wr.cell? ⟨w.heap.size, 4, none⟩ = some (.int .i64 exp) := hbox.cell 4
    have b8 : wr.cell? ⟨w.heap.size, 8, none⟩ = some (.slice A2 2 c2) := hbox.cell 8
    obtain ⟨z0, z1⟩ := hparts.c2
    have hbel := hbox.below
    have hbs := hbel.size
    have hpl := hparts.lt
    have HB := Lib.hid hbox
    have HPB := Lib.hid hparts
    have o0 := hp.one0
    have o1 := hp.one1
    have HP := Lib.hid hp
    clear hbox hparts hp
    by_cases hlt : i < 2
    · obtain ⟨kd, b, o, B1, m1, e1', B2, m2, e2', hkd, rfl, hb, hT, g0, g1, g2, g3, g4, g5, g6, g7, g8⟩ := kid_cells (HKS.out.below hS hbel) (HTR.out.below hS hbel) HK.out i hlt
      have hal : Below wr.heap.size wr (wr.alloc (.cells (hdC kd.h (.slice B1 m1 e1') (.slice B2 m2 e2')).toArray TT)) := (Below.refl _ wr).alloc (Nat.le_refl _) _
      have has : (wr.alloc (.cells (hdC kd.h (.slice B1 m1 e1') (.slice B2 m2 e2')).toArray TT)).heap.size = wr.heap.size + 1 := by simp
      have hC := IH.out kd (mem_at hkd) _ S (wr.alloc (.cells (hdC kd.h (.slice B1 m1 e1') (.slice B2 m2 e2')).toArray TT)) (fun b hb => by have := hS b hb; omega) (hT.below (fun b hb => Nat.lt_of_lt_of_le (hS b hb) hbs) hal) (SmL.at_ HSM.out hkd)
      have HC := Lib.hid hC
      have HAS := Lib.hid has
      have HBx := Lib.hid (show ∀ w2, Below (wr.alloc (.cells (hdC kd.h (.slice B1 m1 e1') (.slice B2 m2 e2')).toArray TT)).heap.size (wr.alloc (.cells (hdC kd.h (.slice B1 m1 e1') (.slice B2 m2 e2')).toArray TT)) w2 → Box w w2 w.heap.size #[.int .i64 4, .bool neg, .slice A1 n1 c1, .string name, .int .i64 exp, .int .i64 rel, .bool truth, .bool all, .slice (some ⟨b, o, none⟩) 2 c2] TT ∧ Box w w2 (w.heap.size + 1) #[v0, v1] tTwo ∧ Below wr.heap.size wr w2 from
        fun w2 hb2 => ⟨(HB.out.alloc _).step hb2, (HPB.out.alloc _).step hb2, hal.trans (hb2.mono (by omega))⟩)
      have HKD := Lib.hid hkd
      clear hC hb hT has hal hkd
      unfold hdC at HC HBx HAS
      cases hof : ofT kd with
      | none =>
        have HOFK := Lib.hid hof
        have HN := Lib.hid (HON.out (ofTs_none_at HKD.out hof))
        clear hof
        go_wp2_with (go_at_call 12; refine HC.out.mono ?_; intro e w2 hq; obtain ⟨rfl, hb2⟩ := hq.no HOFK.out; clear hq)
        go_ret2
        exact OfTPost.mkNo HN.out (HBx.out _ hb2).1.below
      | some p =>
        have HOFK := Lib.hid hof
        have HST := Lib.hid (show ofTs (ks.take (i + 1)) = some (ps ++ [p]) by
          obtain ⟨hi', he⟩ := List.getElem?_eq_some_iff.1 HKD.out
          rw [List.take_succ_eq_append_getElem hi', he, ofTs_snoc, hrel.out]
          show (ofT kd).map _ = _
          rw [hof]; rfl)
        have hpl2 : ps.length = i := by rw [ofTs_len hrel.out, List.length_take]; have := HK.out; omega
        have HNE := Lib.hid (ofT_ne hof)
        clear hof
        rcases (show i = 0 ∨ i = 1 by omega) with rfl | rfl
        · simp only [Nat.zero_mul, Nat.add_zero, Nat.one_mul] at g0 g1 g2 g3 g4 g5 g6 g7 g8
          go_wp2_with (go_at_call 12; refine HC.out.mono ?_; intro e w2 hq; obtain ⟨v, rfl, hv, hb2⟩ := hq.yes HOFK.out; clear hq; obtain ⟨uu, xx, rfl⟩ := hv.iface HNE.out; have HV := Lib.hid hv; clear hv; obtain ⟨q0, q1, q2⟩ := HBx.out _ hb2; obtain ⟨y0, y1⟩ := q1.c2; have yf := q1.fz; have Q0 := Lib.hid q0; have Q1 := Lib.hid q1; have Q2 := Lib.hid q2; clear q0 q1 q2)
          go_roundw
          case rel =>
            have hss := HAS.out; have hb2s := hb2.size; have q2s := Q2.out.size
            have hvv : TmAt (w2.setCell ⟨w.heap.size + 1, 0, none⟩ (.iface uu xx)) (fun b => w.heap.size + 2 ≤ b ∧ b < (w2.setCell ⟨w.heap.size + 1, 0, none⟩ (.iface uu xx)).heap.size) p (.iface uu xx) := TmAt.more (fun b hb => by refine ⟨by omega, by simp; omega⟩) _ _ (HV.out.setCell _ (by omega))
            refine ⟨1, ps ++ [p], .iface uu xx, v1, by omega, rfl, Q0.out.setOther (by omega) _, Q1.out.set0 (by omega) _, ⟨rfl, o1, fun _ => ⟨_, _, rfl⟩, fun h => by omega, fun _ => ?_, fun h => by omega⟩, HST⟩
            rw [show (ps ++ [p]).getD 0 Tm.odd = p by rw [List.eq_nil_of_length_eq_zero hpl2]; rfl]; exact hvv
          case measure => simp [intOf]
        · simp only [Nat.zero_mul, Nat.add_zero, Nat.one_mul] at g0 g1 g2 g3 g4 g5 g6 g7 g8
          go_wp2_with (go_at_call 12; refine HC.out.mono ?_; intro e w2 hq; obtain ⟨v, rfl, hv, hb2⟩ := hq.yes HOFK.out; clear hq; obtain ⟨uu, xx, rfl⟩ := hv.iface HNE.out; have HV := Lib.hid hv; clear hv; obtain ⟨q0, q1, q2⟩ := HBx.out _ hb2; obtain ⟨y0, y1⟩ := q1.c2; have yf := q1.fz; have Q0 := Lib.hid q0; have Q1 := Lib.hid q1; have Q2 := Lib.hid q2; clear q0 q1 q2)
          go_roundw
          case rel =>
            have hss := HAS.out; have hb2s := hb2.size; have q2s := Q2.out.size
            have hvv : TmAt (w2.setCell ⟨w.heap.size + 1, 1, none⟩ (.iface uu xx)) (fun b => w.heap.size + 2 ≤ b ∧ b < (w2.setCell ⟨w.heap.size + 1, 1, none⟩ (.iface uu xx)).heap.size) p (.iface uu xx) := TmAt.more (fun b hb => by refine ⟨by omega, by simp; omega⟩) _ _ (HV.out.setCell _ (by omega))
            refine ⟨2, ps ++ [p], v0, .iface uu xx, by omega, rfl, Q0.out.setOther (by omega) _, Q1.out.set1 (by omega) _, ⟨o0, rfl, fun _ => HP.out.i0 (by omega), fun _ => ⟨_, _, rfl⟩, fun _ => ?_, fun _ => ?_⟩, HST⟩
            · rw [show (ps ++ [p]).getD 0 Tm.odd = ps.getD 0 Tm.odd by rw [List.getD_eq_getElem?_getD, List.getD_eq_getElem?_getD, List.getElem?_append_left (by omega)]]
              exact TmAt.more (fun b hb => ⟨hb.1, by simp; omega⟩) _ _ (((HP.out.p0 (by omega)).below (fun b hb => hb.2) Q2.out).setCell _ (by omega))
            · rw [show (ps ++ [p]).getD 1 Tm.odd = p by simp [List.getD, hpl2]]; exact hvv
          case measure => simp [intOf]
    · obtain rfl : i = 2 := by omega
      have hps : ofTs ks = some ps := by rw [← hrel.out, List.take_of_length_le (by have := HK.out; omega)]
      have HF := Lib.hid (HOF.out ps hps)
      have HPS := Lib.hid hps
      clear hps hrel
      obtain ⟨u0, x0, rfl⟩ := HP.out.i0 (by omega)
      obtain ⟨u1, x1, rfl⟩ := HP.out.i1 (by omega)
      go_wp2
      go_ret2
      refine OfTPost.mkYes HF.out ?_ hbel
      exact ⟨_, _, rfl, TmAt.more (fun b hb => ⟨by omega, hb.2⟩) _ _ (HP.out.p0 (by omega)), TmAt.more (fun b hb => ⟨by omega, hb.2⟩) _ _ (HP.out.p1 (by omega))⟩

set_option maxRecDepth 100000 in
set_option maxHeartbeats 4000000 in
theorem ofTerm_mul (neg : Bool) (abs : List Nat) (name : ByteArray) (exp rel : Int) (truth all : Bool) (ks : List Tr) (ih : OfIH ks) (A1 : Option Addr) (n1 c1 : Nat) (A2 : Option Addr) (c2 : Nat) (xs : List Value) (S : Nat → Prop) (w : World) (hS : ∀ b, S b → b < w.heap.size)
    (hK : 2 = ks.length) (hKc : 2 ≤ c2) (hab : AbsAt w S (.slice A1 n1 c1) abs) (hs1 : abs.length ≤ 20) (hnm : name.size ≤ 40) (hks : SS w S 9 (.slice A2 2 c2) 2 xs) (htr : TrsC w S ks xs) (hsm : SmL ks) :
    Calls Tryd.prog 12 #[.agg #[.int .i64 5, .bool neg, .slice A1 n1 c1, .string name, .int .i64 exp, .int .i64 rel, .bool truth, .bool all, .slice A2 2 c2]] w (OfTPost (.mk ⟨5, neg, abs, name, exp, rel, truth, all⟩ ks) w) := by
  have IH := Lib.hid ih
  have HK := Lib.hid hK
  have HKS := Lib.hid hks
  have HTR := Lib.hid htr
  have HAB := Lib.hid hab
  have HSM := Lib.hid hsm
  have hx0 := (Box.new w #[.int .i64 5, .bool neg, .slice A1 n1 c1, .string name, .int .i64 exp, .int .i64 rel, .bool truth, .bool all, .slice A2 2 c2] TT).alloc (.cells #[.nilIface, .nilIface] tTwo)
  have hx1 := Box.second w (.cells #[.int .i64 5, .bool neg, .slice A1 n1 c1, .string name, .int .i64 exp, .int .i64 rel, .bool truth, .bool all, .slice A2 2 c2] TT) #[.nilIface, .nilIface] tTwo
  have HX0 := Lib.hid hx0
  have HX1 := Lib.hid hx1
  have HOF := Lib.hid (show ∀ ps, ofTs ks = some ps → ofT (.mk ⟨5, neg, abs, name, exp, rel, truth, all⟩ ks) = some (mkT ⟨5, neg, abs, name, exp, rel, truth, all⟩ ps) from fun ps hps => by unfold ofT; rw [if_pos (by simp [kidsT, ← hK]), hps]; rfl)
  have HON := Lib.hid (show ofTs ks = none → ofT (.mk ⟨5, neg, abs, name, exp, rel, truth, all⟩ ks) = none from fun hps => by unfold ofT; rw [hps]; simp)
  clear ih hK hks htr hab hsm hx0 hx1
  go_enter Tryd.func12, Tryd.ntmps12
  go_wp2
  go_loopw [40] (fun a_ wr => ∃ (i : Nat) (ps : List Tm) (v0 v1 : Value), i ≤ 2 ∧ a_ = .int .i64 i ∧ Box w wr w.heap.size #[.int .i64 5, .bool neg, .slice A1 n1 c1, .string name, .int .i64 exp, .int .i64 rel, .bool truth, .bool all, .slice A2 2 c2] TT ∧ Box w wr (w.heap.size + 1) #[v0, v1] tTwo ∧ Parts w wr i ps v0 v1 ∧ Hid (ofTs (ks.take i) = some ps)) (fun a_ _ => 2 - (intOf a_).toNat)
  case atStart => exact ⟨0, [], .nilIface, .nilIface, Nat.zero_le _, rfl, HX0.out, HX1.out, ⟨rfl, rfl, fun h => by omega, fun h => by omega, fun h => by omega, fun h => by omega⟩, Lib.hid (by simp [ofTs])⟩
  case round =>
    obtain ⟨i, ps, v0, v1, hi, rfl, hbox, hparts, hp, hrel⟩ := hrel
    have b1 : wr.cell? ⟨w.heap.size, 1, none⟩ = some (.bool neg) := hbox.cell 1
    have b2 : wr.cell? ⟨w.heap.size, 2, none⟩ = some (.slice A1 n1 c1) := hbox.cell 2
    have b0 : wr.cell? ⟨w.heap.size, 0, none⟩ = some (.int .i64 5) := hbox.cell 0
    have b3 : wr.cell? ⟨w.heap.size, 3, none⟩ = some (.string name) := hbox.cell 3
    have b4 : wr.cell? ⟨w.heap.size, 4, none⟩ = some (.int .i64 exp) := hbox.cell 4
    have b8 : wr.cell? ⟨w.heap.size, 8, none⟩ = some (.slice A2 2 c2) := hbox.cell 8
    obtain ⟨z0, z1⟩ := hparts.c2
    have hbel := hbox.below
    have hbs := hbel.size
    have hpl := hparts.lt
    have HB := Lib.hid hbox
    have HPB := Lib.hid hparts
    have o0 := hp.one0
    have o1 := hp.one1
    have HP := Lib.hid hp
    clear hbox hparts hp
    by_cases hlt : i < 2
    · obtain ⟨kd, b, o, B1, m1, e1', B2, m2, e2', hkd, rfl, hb, hT, g0, g1, g2, g3, g4, g5, g6, g7, g8⟩ := kid_cells (HKS.out.below hS hbel) (HTR.out.below hS hbel) HK.out i hlt
      have hal : Below wr.heap.size wr (wr.alloc (.cells (hdC kd.h (.slice B1 m1 e1') (.slice B2 m2 e2')).toArray TT)) := (Below.refl _ wr).alloc (Nat.le_refl _) _
      have has : (wr.alloc (.cells (hdC kd.h (.slice B1 m1 e1') (.slice B2 m2 e2')).toArray TT)).heap.size = wr.heap.size + 1 := by simp
      have hC := IH.out kd (mem_at hkd) _ S (wr.alloc (.cells (hdC kd.h (.slice B1 m1 e1') (.slice B2 m2 e2')).toArray TT)) (fun b hb => by have := hS b hb; omega) (hT.below (fun b hb => Nat.lt_of_lt_of_le (hS b hb) hbs) hal) (SmL.at_ HSM.out hkd)
      have HC := Lib.hid hC
      have HAS := Lib.hid has
      have HBx := Lib.hid (show ∀ w2, Below (wr.alloc (.cells (hdC kd.h (.slice B1 m1 e1') (.slice B2 m2 e2')).toArray TT)).heap.size (wr.alloc (.cells (hdC kd.h (.slice B1 m1 e1') (.slice B2 m2 e2')).toArray TT)) w2 → Box w w2 w.heap.size #[.int .i64 5, .bool neg, .slice A1 n1 c1, .string name, .int .i64 exp, .int .i64 rel, .bool truth, .bool all, .slice (some ⟨b, o, none⟩) 2 c2] TT ∧ Box w w2 (w.heap.size + 1) #[v0, v1] tTwo ∧ Below wr.heap.size wr w2 from
        fun w2 hb2 => ⟨(HB.out.alloc _).step hb2, (HPB.out.alloc _).step hb2, hal.trans (hb2.mono (by omega))⟩)
      have HKD := Lib.hid hkd
      clear hC hb hT has hal hkd
      unfold hdC at HC HBx HAS
      cases hof : ofT kd with
      | none =>
        have HOFK := Lib.hid hof
        have HN := Lib.hid (HON.out (ofTs_none_at HKD.out hof))
        clear hof
        go_wp2_with (go_at_call 12; refine HC.out.mono ?_; intro e w2 hq; obtain ⟨rfl, hb2⟩ := hq.no HOFK.out; clear hq)
        go_ret2
        exact OfTPost.mkNo HN.out (HBx.out _ hb2).1.below
      | some p =>
        have HOFK := Lib.hid hof
        have HST := Lib.hid (show ofTs (ks.take (i + 1)) = some (ps ++ [p]) by
          obtain ⟨hi', he⟩ := List.getElem?_eq_some_iff.1 HKD.out
          rw [List.take_succ_eq_append_getElem hi', he, ofTs_snoc, hrel.out]
          show (ofT kd).map _ = _
          rw [hof]; rfl)
        have hpl2 : ps.length = i := by rw [ofTs_len hrel.out, List.length_take]; have := HK.out; omega
        have HNE := Lib.hid (ofT_ne hof)
        clear hof
        rcases (show i = 0 ∨ i = 1 by omega) with rfl | rfl
        · simp only [Nat.zero_mul, Nat.add_zero, Nat.one_mul] at g0 g1 g2 g3 g4 g5 g6 g7 g8
          go_wp2_with (go_at_call 12; refine HC.out.mono ?_; intro e w2 hq; obtain ⟨v, rfl, hv, hb2⟩ := hq.yes HOFK.out; clear hq; obtain ⟨uu, xx, rfl⟩ := hv.iface HNE.out; have HV := Lib.hid hv; clear hv; obtain ⟨q0, q1, q2⟩ := HBx.out _ hb2; obtain ⟨y0, y1⟩ := q1.c2; have yf := q1.fz; have Q0 := Lib.hid q0; have Q1 := Lib.hid q1; have Q2 := Lib.hid q2; clear q0 q1 q2)
          go_roundw
          case rel =>
            have hss := HAS.out; have hb2s := hb2.size; have q2s := Q2.out.size
            have hvv : TmAt (w2.setCell ⟨w.heap.size + 1, 0, none⟩ (.iface uu xx)) (fun b => w.heap.size + 2 ≤ b ∧ b < (w2.setCell ⟨w.heap.size + 1, 0, none⟩ (.iface uu xx)).heap.size) p (.iface uu xx) := TmAt.more (fun b hb => by refine ⟨by omega, by simp; omega⟩) _ _ (HV.out.setCell _ (by omega))
            refine ⟨1, ps ++ [p], .iface uu xx, v1, by omega, rfl, Q0.out.setOther (by omega) _, Q1.out.set0 (by omega) _, ⟨rfl, o1, fun _ => ⟨_, _, rfl⟩, fun h => by omega, fun _ => ?_, fun h => by omega⟩, HST⟩
            rw [show (ps ++ [p]).getD 0 Tm.odd = p by rw [List.eq_nil_of_length_eq_zero hpl2]; rfl]; exact hvv
          case measure => simp [intOf]
        · simp only [Nat.zero_mul, Nat.add_zero, Nat.one_mul] at g0 g1 g2 g3 g4 g5 g6 g7 g8
          go_wp2_with (go_at_call 12; refine HC.out.mono ?_; intro e w2 hq; obtain ⟨v, rfl, hv, hb2⟩ := hq.yes HOFK.out; clear hq; obtain ⟨uu, xx, rfl⟩ := hv.iface HNE.out; have HV := Lib.hid hv; clear hv; obtain ⟨q0, q1, q2⟩ := HBx.out _ hb2; obtain ⟨y0, y1⟩ := q1.c2; have yf := q1.fz; have Q0 := Lib.hid q0; have Q1 := Lib.hid q1; have Q2 := Lib.hid q2; clear q0 q1 q2)
          go_roundw
          case rel =>
            have hss := HAS.out; have hb2s := hb2.size; have q2s := Q2.out.size
            have hvv : TmAt (w2.setCell ⟨w.heap.size + 1, 1, none⟩ (.iface uu xx)) (fun b => w.heap.size + 2 ≤ b ∧ b < (w2.setCell ⟨w.heap.size + 1, 1, none⟩ (.iface uu xx)).heap.size) p (.iface uu xx) := TmAt.more (fun b hb => by refine ⟨by omega, by simp; omega⟩) _ _ (HV.out.setCell _ (by omega))
            refine ⟨2, ps ++ [p], v0, .iface uu xx, by omega, rfl, Q0.out.setOther (by omega) _, Q1.out.set1 (by omega) _, ⟨o0, rfl, fun _ => HP.out.i0 (by omega), fun _ => ⟨_, _, rfl⟩, fun _ => ?_, fun _ => ?_⟩, HST⟩
            · rw [show (ps ++ [p]).getD 0 Tm.odd = ps.getD 0 Tm.odd by rw [List.getD_eq_getElem?_getD, List.getD_eq_getElem?_getD, List.getElem?_append_left (by omega)]]
              exact TmAt.more (fun b hb => ⟨hb.1, by simp; omega⟩) _ _ (((HP.out.p0 (by omega)).below (fun b hb => hb.2) Q2.out).setCell _ (by omega))
            · rw [show (ps ++ [p]).getD 1 Tm.odd = p by simp [List.getD, hpl2]]; exact hvv
          case measure => simp [intOf]
    · obtain rfl : i = 2 := by omega
      have hps : ofTs ks = some ps := by rw [← hrel.out, List.take_of_length_le (by have := HK.out; omega)]
      have HF := Lib.hid (HOF.out ps hps)
      have HPS := Lib.hid hps
      clear hps hrel
      obtain ⟨u0, x0, rfl⟩ := HP.out.i0 (by omega)
      obtain ⟨u1, x1, rfl⟩ := HP.out.i1 (by omega)
      go_wp2
      go_ret2
      refine OfTPost.mkYes HF.out ?_ hbel
      exact ⟨_, _, rfl, TmAt.more (fun b hb => ⟨by omega, hb.2⟩) _ _ (HP.out.p0 (by omega)), TmAt.more (fun b hb => ⟨by omega, hb.2⟩) _ _ (HP.out.p1 (by omega))⟩


set_option maxRecDepth 100000 in
set_option maxHeartbeats 8000000 in
theorem ofTerm_any : ∀ (t : Tr) (cs : List Value) (S : Nat → Prop) (w : World), (∀ b, S b → b < w.heap.size) → TreeAt w S t cs → Sm t →
    Calls Tryd.prog 12 #[.agg cs.toArray] w (OfTPost t w) := by
  refine Tr.ind fun h ks ih => ?_
  intro cs S w hS hT hsm
  obtain ⟨A1, n1, c1, A2, K, c2, xs, rfl, hK, hKc, hK64, hn1', hnm, hab, hks, htr⟩ := hT.mkN
  unfold Sm at hsm
  obtain ⟨hs1, hs2, hs3⟩ := hsm
  have IH := Lib.hid ih
  have HK := Lib.hid hK
  have HKS := Lib.hid hks
  have HTR := Lib.hid htr
  have HAB := Lib.hid hab
  have HSM := Lib.hid hs3
  have hx0 := Box.new w (hdC h (.slice A1 n1 c1) (.slice A2 K c2)).toArray TT
  have HX0 := Lib.hid hx0
  clear ih hK hks htr hT hab hnm hn1' hx0
  by_cases hacc : kidsT h.k = some ks.length ∧ ¬ (h.k = 7 ∧ h.exp < 0)
  · have ihh : OfIH ks := IH.out
    obtain ⟨k, neg, abs, name, exp, rel, truth, all⟩ := h
    simp only at hacc hs1 hs2
    obtain ⟨hk1, hk2⟩ := hacc
    rw [← HK.out] at hk1
    have hcase : (k = 1 ∧ K = 0) ∨ (k = 2 ∧ K = 0) ∨ (k = 6 ∧ K = 1) ∨ (k = 7 ∧ K = 1 ∧ 0 ≤ exp) ∨ (k = 3 ∧ K = 2) ∨ (k = 4 ∧ K = 2) ∨ (k = 5 ∧ K = 2) := by
      unfold kidsT at hk1
      by_cases h1 : k = 1 ∨ k = 2
      · rw [if_pos h1] at hk1
        simp only [Option.some.injEq] at hk1
        omega
      · rw [if_neg h1] at hk1
        by_cases h2 : k = 6 ∨ k = 7
        · rw [if_pos h2] at hk1
          simp only [Option.some.injEq] at hk1
          omega
        · rw [if_neg h2] at hk1
          by_cases h3 : k = 3 ∨ k = 4 ∨ k = 5
          · rw [if_pos h3] at hk1
            simp only [Option.some.injEq] at hk1
            omega
          · rw [if_neg h3] at hk1; cases hk1
    rcases hcase with ⟨rfl, rfl⟩ | ⟨rfl, rfl⟩ | ⟨rfl, rfl⟩ | ⟨rfl, rfl, hex⟩ | ⟨rfl, rfl⟩ | ⟨rfl, rfl⟩ | ⟨rfl, rfl⟩
    · exact ofTerm_num neg abs name exp rel truth all ks ihh A1 n1 c1 A2 c2 xs S w hS HK.out hKc HAB.out hs1 hs2 HKS.out HTR.out HSM.out
    · exact ofTerm_name neg abs name exp rel truth all ks ihh A1 n1 c1 A2 c2 xs S w hS HK.out hKc HAB.out hs1 hs2 HKS.out HTR.out HSM.out
    · exact ofTerm_neg neg abs name exp rel truth all ks ihh A1 n1 c1 A2 c2 xs S w hS HK.out hKc HAB.out hs1 hs2 HKS.out HTR.out HSM.out
    · exact ofTerm_pow neg abs name exp rel truth all ks ihh A1 n1 c1 A2 c2 xs S w hS HK.out hKc HAB.out hs1 hs2 HKS.out HTR.out HSM.out hex
    · exact ofTerm_add neg abs name exp rel truth all ks ihh A1 n1 c1 A2 c2 xs S w hS HK.out hKc HAB.out hs1 hs2 HKS.out HTR.out HSM.out
    · exact ofTerm_sub neg abs name exp rel truth all ks ihh A1 n1 c1 A2 c2 xs S w hS HK.out hKc HAB.out hs1 hs2 HKS.out HTR.out HSM.out
    · exact ofTerm_mul neg abs name exp rel truth all ks ihh A1 n1 c1 A2 c2 xs S w hS HK.out hKc HAB.out hs1 hs2 HKS.out HTR.out HSM.out
  · have hno : ofT (.mk h ks) = none := by unfold ofT; rw [if_neg hacc]
    have HNO := Lib.hid hno
    rw [← HK.out] at hacc
    clear hno
    obtain ⟨k, neg, abs, name, exp, rel, truth, all⟩ := h
    simp only at hacc hs1 hs2
    have hcase : (k = 1 ∧ K ≠ 0) ∨ (k = 2 ∧ K ≠ 0) ∨ (k = 6 ∧ K ≠ 1) ∨ (k = 7 ∧ K ≠ 1) ∨ (k = 7 ∧ K = 1 ∧ exp < 0) ∨ (k = 3 ∧ K ≠ 2) ∨ (k = 4 ∧ K ≠ 2) ∨ (k = 5 ∧ K ≠ 2) ∨ (k < 1 ∨ 7 < k) := by
      unfold kidsT at hacc
      by_cases h1 : k = 1 ∨ k = 2
      · rw [if_pos h1] at hacc
        simp only [Option.some.injEq] at hacc
        omega
      · rw [if_neg h1] at hacc
        by_cases h2 : k = 6 ∨ k = 7
        · rw [if_pos h2] at hacc
          simp only [Option.some.injEq] at hacc
          omega
        · rw [if_neg h2] at hacc
          by_cases h3 : k = 3 ∨ k = 4 ∨ k = 5
          · rw [if_pos h3] at hacc
            simp only [Option.some.injEq] at hacc
            omega
          · omega
    clear hacc
    unfold hdC at HX0 ⊢
    simp only at HX0 ⊢
    rcases hcase with ⟨rfl, hne⟩ | ⟨rfl, hne⟩ | ⟨rfl, hne⟩ | ⟨rfl, hne⟩ | ⟨rfl, rfl, hex⟩ | ⟨rfl, hne⟩ | ⟨rfl, hne⟩ | ⟨rfl, hne⟩ | hne
    · have g : ((K : Int) != 0) = true := by simp; omega
      clear hne
      go_enter Tryd.func12, Tryd.ntmps12
      go_wp2
      go_ret2
      exact OfTPost.mkNo HNO.out HX0.out.below
    · have g : ((K : Int) != 0) = true := by simp; omega
      clear hne
      go_enter Tryd.func12, Tryd.ntmps12
      go_wp2
      go_ret2
      exact OfTPost.mkNo HNO.out HX0.out.below
    · have g : ((K : Int) != 1) = true := by simp; omega
      clear hne
      go_enter Tryd.func12, Tryd.ntmps12
      go_wp2
      go_ret2
      exact OfTPost.mkNo HNO.out HX0.out.below
    · have g : ((K : Int) != 1) = true := by simp; omega
      clear hne
      go_enter Tryd.func12, Tryd.ntmps12
      go_wp2
      go_ret2
      exact OfTPost.mkNo HNO.out HX0.out.below
    · go_enter Tryd.func12, Tryd.ntmps12
      go_wp2
      go_ret2
      exact OfTPost.mkNo HNO.out HX0.out.below
    · have g : ((K : Int) != 2) = true := by simp; omega
      clear hne
      go_enter Tryd.func12, Tryd.ntmps12
      go_wp2
      go_ret2
      exact OfTPost.mkNo HNO.out HX0.out.below
    · have g : ((K : Int) != 2) = true := by simp; omega
      clear hne
      go_enter Tryd.func12, Tryd.ntmps12
      go_wp2
      go_ret2
      exact OfTPost.mkNo HNO.out HX0.out.below
    · have g : ((K : Int) != 2) = true := by simp; omega
      clear hne
      go_enter Tryd.func12, Tryd.ntmps12
      go_wp2
      go_ret2
      exact OfTPost.mkNo HNO.out HX0.out.below
    · have g1 : (k == 1) = false := by simp; omega
      have g2 : (k == 2) = false := by simp; omega
      have g3 : (k == 3) = false := by simp; omega
      have g4 : (k == 4) = false := by simp; omega
      have g5 : (k == 5) = false := by simp; omega
      have g6 : (k == 6) = false := by simp; omega
      have g7 : (k == 7) = false := by simp; omega
      clear hne
      go_enter Tryd.func12, Tryd.ntmps12
      go_wp2
      go_ret2
      exact OfTPost.mkNo HNO.out HX0.out.below
end Fm
end Go.Proofs.YtkjbfomokdjbnaaDoor
