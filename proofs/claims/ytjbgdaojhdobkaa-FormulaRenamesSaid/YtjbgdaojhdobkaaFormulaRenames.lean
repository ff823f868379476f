/-
  FormulaRenames: for every tree and every two texts that came in the law returns true: Rename replaces the free occurrences of a name, or returns ErrName, as the reference does; renamed back it is the formula again. No condition.
-/
import Derived.Test.YtjbgdaojhdobkaaRnT
import Derived.Test.YtjbgdaojhdobkaaRnQ
import Derived.Test.YtjbgdaojhdobkaaFmT2
import Derived.Test.YtjbgdaojhdobkaaFmZn
import Derived.Test.YtjbgdaojhdobkaaFmNa
import Derived.Test.YtjbgdaojhdobkaaFmX
import Derived.Test.YtjbgdaojhdobkaaFmAw
import Derived.Test.YtjbgdaojhdobkaaFmOpn
import Derived.Test.YtjbgdaojhdobkaaRows
import Derived.ProofKit
import Derived.OpenShut
import Derived.ShutString
import Derived.Carry
namespace Go.Proofs.Ytjbgdaojhdobkaa.formulaRenames
open Go.ChangeShapes Go.WideShapes Go.ChangeAt Go.RowKit Go.Sort Go.Proofs.Ytjbgdaojhdobkaa Go.Proofs.Ytjbgdaojhdobkaa.Fm Go.Proofs.Ytjbgdaojhdobkaa.Va Go.Proofs.Ytjbgdaojhdobkaa.Rn
open Go.ChangeMaps (open_string shut_string)
set_option linter.unusedVariables false
set_option linter.unusedSimpArgs false
attribute [local go_sem] run_store

theorem ren_tree {fr to_ : ByteArray} {h : Hd} {ks : List Tr} (h1 : h.k ≠ 2) (h2 : h.k ≠ 15) : renT fr to_ (.mk h ks) = .mk h (ks.map (renT fr to_)) := by rw [renT_mk, if_neg (fun e => h2 e.1), if_neg (fun e => h1 e.1)]
theorem plain_renT (fr to_ : ByteArray) (t : Tm) : plainT (renTm fr to_ t) = renT fr to_ (plainT t) := by
  induction t with
  | odd => unfold renTm plainT; rw [ren_tree (by decide) (by decide)]; rfl
  | num neg abs => unfold renTm plainT; rw [ren_tree (by show (1 : Int) ≠ 2; decide) (by show (1 : Int) ≠ 15; decide)]; rfl
  | name s =>
    unfold renTm plainT
    by_cases e : s = fr
    · rw [if_pos e, renT_mk, if_neg (fun x => absurd (show (2 : Int) = 15 from x.1) (by decide)), if_pos ⟨rfl, e⟩]; rfl
    · rw [if_neg e, renT_mk, if_neg (fun x => absurd (show (2 : Int) = 15 from x.1) (by decide)), if_neg (fun x => e x.2)]; rfl
  | add l r il ir => unfold renTm plainT; rw [ren_tree (by decide) (by decide), il, ir]; rfl
  | sub l r il ir => unfold renTm plainT; rw [ren_tree (by decide) (by decide), il, ir]; rfl
  | mul l r il ir => unfold renTm plainT; rw [ren_tree (by decide) (by decide), il, ir]; rfl
  | neg t it => unfold renTm plainT; rw [ren_tree (by decide) (by decide), it]; rfl
  | pow t e it => unfold renTm plainT; rw [ren_tree (by show (7 : Int) ≠ 2; decide) (by show (7 : Int) ≠ 15; decide), it]; rfl
theorem plain_ren (fr to_ : ByteArray) (f : Fo) : plainF (renF fr to_ f) = renT fr to_ (plainF f) := by
  induction f with
  | odd => unfold renF plainF; rw [ren_tree (by decide) (by decide)]; rfl
  | truth b => unfold renF plainF; rw [ren_tree (by show (8 : Int) ≠ 2; decide) (by show (8 : Int) ≠ 15; decide)]; rfl
  | atom l e r => unfold renF plainF; rw [ren_tree (by show (9 : Int) ≠ 2; decide) (by show (9 : Int) ≠ 15; decide), plain_renT, plain_renT]; rfl
  | not f it => unfold renF plainF; rw [ren_tree (by decide) (by decide), it]; rfl
  | and l r il ir => unfold renF plainF; rw [ren_tree (by decide) (by decide), il, ir]; rfl
  | or l r il ir => unfold renF plainF; rw [ren_tree (by decide) (by decide), il, ir]; rfl
  | implies l r il ir => unfold renF plainF; rw [ren_tree (by decide) (by decide), il, ir]; rfl
  | iff l r il ir => unfold renF plainF; rw [ren_tree (by decide) (by decide), il, ir]; rfl
  | quant a n f it =>
    unfold renF
    by_cases e : n = fr
    · rw [if_pos e]; unfold plainF; rw [renT_mk, if_pos ⟨rfl, e⟩]
    · rw [if_neg e]; unfold plainF; rw [renT_mk, if_neg (fun x => e x.2), if_neg (by show ¬ ((15 : Int) = 2 ∧ _); simp), it]; rfl
theorem namesT_ren (fr to_ : ByteArray) (t : Tm) : (namesT (renTm fr to_ t)).length = (namesT t).length := by
  induction t <;> simp_all [renTm, namesT]
theorem fsz_ren (fr to_ : ByteArray) (f : Fo) : fsz (renF fr to_ f) = fsz f := by
  induction f with
  | quant a n f ih => unfold renF; by_cases e : n = fr <;> simp [e, fsz, ih]
  | atom l e r => simp [renF, fsz, namesT_ren]
  | _ => simp_all [renF, fsz]

set_option maxHeartbeats 8000000 in
set_option maxRecDepth 100000 in
theorem no (t0 : Tr) (cs0 : List Value) (a1 a2 : ByteArray) (hbad : rightB t0 = false ∨ 40 < a1.size ∨ 40 < a2.size) (w : World) (hT0 : TreeAt w (fun b => b < w.heap.size) t0 cs0) :
    Calls Try.prog 14 #[.agg cs0.toArray, .string a1, .string a2] w fun e w' => e = .returned (.bool true) ∧ Below w.heap.size w w' := by
  obtain ⟨A1, n1, c1, A2, n2, c2, k, neg, nm, ex, rl, tr, al, rfl⟩ := hT0.nine
  have hx := Box.new w #[.int .i64 k, .bool neg, .slice A1 n1 c1, .string nm, .int .i64 ex, .int .i64 rl, .bool tr, .bool al, .slice A2 n2 c2] TT
  have HX := Lib.hid hx
  have HT := Lib.hid hT0
  obtain ⟨R, hR⟩ : ∃ R, R = rightB t0 := ⟨_, rfl⟩
  have HR := Lib.hid hR
  rw [← hR] at hbad
  clear hx hT0 hR
  have hcase : R = false ∨ (R = true ∧ decide ((40 : Int) < a1.size) = true) ∨ (R = true ∧ decide ((40 : Int) < a1.size) = false ∧ decide ((40 : Int) < a2.size) = true) := by
    cases R
    · exact .inl rfl
    · by_cases h1 : 40 < a1.size
      · exact .inr (.inl ⟨rfl, by simp; omega⟩)
      · have h2 : 40 < a2.size := by simpa [h1] using hbad
        exact .inr (.inr ⟨rfl, by simp; omega, by simp; omega⟩)
  clear hbad
  rcases hcase with rfl | ⟨rfl, d1⟩ | ⟨rfl, d1, d2⟩
  all_goals
    go_enter Try.func14, Try.ntmps14
    go_wp2_with fail
    refine (awake_any _).mono ?_
    rintro e w1 ⟨rfl, hb1⟩
    obtain ⟨g0, g1, g2, g3, g4, g5, g6, g7, g8⟩ := (HX.out.step hb1).c9
    have HB1 := Lib.hid (HX.out.step hb1)
    clear hb1
    go_wp2_with (first
      | (go_at_call 24; refine (right_any t0 _ _ _ (fun b h => Nat.lt_of_lt_of_le h HB1.out.below.size) (HT.out.below (fun b h => h) HB1.out.below)).mono ?_; rintro e w2 ⟨rfl, hb2⟩; rw [← HR.out])
      | (go_at_call 15; refine (awake_any _).mono ?_; rintro e w3 ⟨rfl, hb3⟩))
    go_ret
    exact ⟨rfl, HB1.out.below.trans ((hb2.trans (hb3.mono hb2.size)).mono HB1.out.below.size)⟩

theorem W1below (w : World) (o : Obj) {w' : World} (h : Below (w.alloc o).heap.size (w.alloc o) w') : Below w.heap.size w w' := ((Below.refl _ w).alloc (Nat.le_refl _) o).trans (h.mono (by simp))
def StrsPost (N : Nat) (l : List ByteArray) (w : World) (e : Ending) (w2 : World) : Prop := ∃ A c, e = .returned (.slice A N c) ∧ StrsAt w2 (fun b => b < w2.heap.size) (.slice A N c) l ∧ Below w.heap.size w w2
set_option maxHeartbeats 16000000 in
set_option maxRecDepth 100000 in
theorem yes (t0 : Tr) (cs0 : List Value) (a1 a2 : ByteArray) (hgood : rightB t0 = true) (h401 : a1.size ≤ 40) (h402 : a2.size ≤ 40) (w : World) (hT0 : TreeAt w (fun b => b < w.heap.size) t0 cs0) :
    Calls Try.prog 14 #[.agg cs0.toArray, .string a1, .string a2] w fun e w' => e = .returned (.bool true) ∧ Below w.heap.size w w' := by
  obtain ⟨A1, n1, c1, A2, n2, c2, k, neg, nm, ex, rl, tr, al, rfl⟩ := hT0.nine
  have hx := Box.new w #[.int .i64 k, .bool neg, .slice A1 n1 c1, .string nm, .int .i64 ex, .int .i64 rl, .bool tr, .bool al, .slice A2 n2 c2] TT
  have hgood2 := hgood
  unfold rightB at hgood2
  obtain ⟨hfew, his⟩ : fewB t0 300 = true ∧ isF t0 false = true := by simpa using hgood2
  have hsm := fewB_sm hfew
  have hnn := fewB_nn hfew
  obtain ⟨f, hof⟩ : ∃ f, ofF t0 = some f := by rw [isF_ofF] at his; exact Option.isSome_iff_exists.1 his
  have hrf := rf_of t0 f hof
  obtain ⟨hpl, hst⟩ := plainF_of hrf hsm
  have hfz := fsz_nn hrf
  have hcan := rf_canon hrf
  have hsmc := sm_canon hsm
  have hrf2 : RF (renT a1 a2 (canonT t0)) (renF a1 a2 f) := ren_fo hcan
  have hsm2 : Sm (renT a1 a2 (canonT t0)) := sm_ren h402 _ hsmc
  obtain ⟨hpl2, hst2⟩ := plainF_of hrf2 hsm2
  have hlt : ∀ w', Below (w.alloc (.cells #[.int .i64 k, .bool neg, .slice A1 n1 c1, .string nm, .int .i64 ex, .int .i64 rl, .bool tr, .bool al, .slice A2 n2 c2] TT)).heap.size (w.alloc (.cells #[.int .i64 k, .bool neg, .slice A1 n1 c1, .string nm, .int .i64 ex, .int .i64 rl, .bool tr, .bool al, .slice A2 n2 c2] TT)) w' → ∀ b, b < w.heap.size → b < w'.heap.size := fun w' h b hb => Nat.lt_of_lt_of_le hb (W1below w _ h).size
  have htb : ∀ w', Below (w.alloc (.cells #[.int .i64 k, .bool neg, .slice A1 n1 c1, .string nm, .int .i64 ex, .int .i64 rl, .bool tr, .bool al, .slice A2 n2 c2] TT)).heap.size (w.alloc (.cells #[.int .i64 k, .bool neg, .slice A1 n1 c1, .string nm, .int .i64 ex, .int .i64 rl, .bool tr, .bool al, .slice A2 n2 c2] TT)) w' → TreeAt w' (fun b => b < w.heap.size) t0 _ := fun w' h => hT0.below (fun b h => h) (W1below w _ h)
  have HXB := Lib.hid (show ∀ wc, Below (w.alloc (.cells #[.int .i64 k, .bool neg, .slice A1 n1 c1, .string nm, .int .i64 ex, .int .i64 rl, .bool tr, .bool al, .slice A2 n2 c2] TT)).heap.size (w.alloc (.cells #[.int .i64 k, .bool neg, .slice A1 n1 c1, .string nm, .int .i64 ex, .int .i64 rl, .bool tr, .bool al, .slice A2 n2 c2] TT)) wc → Box w wc w.heap.size #[.int .i64 k, .bool neg, .slice A1 n1 c1, .string nm, .int .i64 ex, .int .i64 rl, .bool tr, .bool al, .slice A2 n2 c2] TT from fun wc h => hx.step h)
  have fin := Lib.hid (show ∀ wc, Below (w.alloc (.cells #[.int .i64 k, .bool neg, .slice A1 n1 c1, .string nm, .int .i64 ex, .int .i64 rl, .bool tr, .bool al, .slice A2 n2 c2] TT)).heap.size (w.alloc (.cells #[.int .i64 k, .bool neg, .slice A1 n1 c1, .string nm, .int .i64 ex, .int .i64 rl, .bool tr, .bool al, .slice A2 n2 c2] TT)) wc → Below w.heap.size w wc from fun wc h => W1below w _ h)
  have hstep := Lib.hid (show ∀ wc wn, Below (w.alloc (.cells #[.int .i64 k, .bool neg, .slice A1 n1 c1, .string nm, .int .i64 ex, .int .i64 rl, .bool tr, .bool al, .slice A2 n2 c2] TT)).heap.size (w.alloc (.cells #[.int .i64 k, .bool neg, .slice A1 n1 c1, .string nm, .int .i64 ex, .int .i64 rl, .bool tr, .bool al, .slice A2 n2 c2] TT)) wc → Below wc.heap.size wc wn → Below (w.alloc (.cells #[.int .i64 k, .bool neg, .slice A1 n1 c1, .string nm, .int .i64 ex, .int .i64 rl, .bool tr, .bool al, .slice A2 n2 c2] TT)).heap.size (w.alloc (.cells #[.int .i64 k, .bool neg, .slice A1 n1 c1, .string nm, .int .i64 ex, .int .i64 rl, .bool tr, .bool al, .slice A2 n2 c2] TT)) wn from fun wc wn h1 h2 => h1.trans (h2.mono h1.size))
  have HRT := Lib.hid (show ∀ w', Below (w.alloc (.cells #[.int .i64 k, .bool neg, .slice A1 n1 c1, .string nm, .int .i64 ex, .int .i64 rl, .bool tr, .bool al, .slice A2 n2 c2] TT)).heap.size (w.alloc (.cells #[.int .i64 k, .bool neg, .slice A1 n1 c1, .string nm, .int .i64 ex, .int .i64 rl, .bool tr, .bool al, .slice A2 n2 c2] TT)) w' → Calls Try.prog 24 #[.agg #[.int .i64 k, .bool neg, .slice A1 n1 c1, .string nm, .int .i64 ex, .int .i64 rl, .bool tr, .bool al, .slice A2 n2 c2]] w' fun e w2 => e = .returned (.bool true) ∧ Below w'.heap.size w' w2 from fun w' hb => by rw [← hgood]; exact right_any t0 _ _ w' (hlt w' hb) (htb w' hb))
  have HOT := Lib.hid (show ∀ w', Below (w.alloc (.cells #[.int .i64 k, .bool neg, .slice A1 n1 c1, .string nm, .int .i64 ex, .int .i64 rl, .bool tr, .bool al, .slice A2 n2 c2] TT)).heap.size (w.alloc (.cells #[.int .i64 k, .bool neg, .slice A1 n1 c1, .string nm, .int .i64 ex, .int .i64 rl, .bool tr, .bool al, .slice A2 n2 c2] TT)) w' → Calls Try.prog 22 #[.agg #[.int .i64 k, .bool neg, .slice A1 n1 c1, .string nm, .int .i64 ex, .int .i64 rl, .bool tr, .bool al, .slice A2 n2 c2]] w' (OfPost t0 w') from fun w' hb => of_any t0 _ _ w' (hlt w' hb) (htb w' hb) hsm)
  have HRR := Lib.hid (show ∀ w', Below (w.alloc (.cells #[.int .i64 k, .bool neg, .slice A1 n1 c1, .string nm, .int .i64 ex, .int .i64 rl, .bool tr, .bool al, .slice A2 n2 c2] TT)).heap.size (w.alloc (.cells #[.int .i64 k, .bool neg, .slice A1 n1 c1, .string nm, .int .i64 ex, .int .i64 rl, .bool tr, .bool al, .slice A2 n2 c2] TT)) w' → Calls Try.prog 49 #[.agg #[.int .i64 k, .bool neg, .slice A1 n1 c1, .string nm, .int .i64 ex, .int .i64 rl, .bool tr, .bool al, .slice A2 n2 c2], .string a1, .string a2] w' (RRenPost a1 a2 t0 w') from fun w' hb => rrename_any t0 hsm (by omega) _ _ w' (hlt w' hb) (htb w' hb) h401 h402)
  obtain ⟨LF, hLF⟩ : ∃ l, l = freeR t0 [] [] := ⟨_, rfl⟩
  obtain ⟨LB, hLB⟩ : ∃ l, l = qNames (partsL (flatF t0 0)) := ⟨_, rfl⟩
  have hlf : LF.length ≤ 1000000 := by rw [hLF]; have := freeR_len t0 [] []; simp at this; omega
  have hlb : LB.length ≤ 1000000 := by rw [hLB, bound_same hrf]; have := boundN_le f; omega
  obtain ⟨NF, hNF⟩ : ∃ n, n = LF.length := ⟨_, rfl⟩
  obtain ⟨NB, hNB⟩ : ∃ n, n = LB.length := ⟨_, rfl⟩
  have HFR := Lib.hid (show ∀ w', Below (w.alloc (.cells #[.int .i64 k, .bool neg, .slice A1 n1 c1, .string nm, .int .i64 ex, .int .i64 rl, .bool tr, .bool al, .slice A2 n2 c2] TT)).heap.size (w.alloc (.cells #[.int .i64 k, .bool neg, .slice A1 n1 c1, .string nm, .int .i64 ex, .int .i64 rl, .bool tr, .bool al, .slice A2 n2 c2] TT)) w' → Calls Try.prog 27 #[.agg #[.int .i64 k, .bool neg, .slice A1 n1 c1, .string nm, .int .i64 ex, .int .i64 rl, .bool tr, .bool al, .slice A2 n2 c2]] w' (StrsPost NF LF w') from fun w' hb => (rfree_any t0 _ _ w' (hlt w' hb) (htb w' hb) (by omega)).mono fun e w2 hp => by
    rw [← hLF] at hp
    obtain ⟨v, rfl, ho, hb2⟩ := hp
    have hs := StrsAt.more (StrsAt.of_own ho hlf) (fun b h => h.2)
    obtain ⟨A, c, rfl⟩ := hs.form
    rw [← hNF] at hs ⊢
    exact ⟨A, c, rfl, hs, hb2⟩)
  have HBD := Lib.hid (show ∀ w', Below (w.alloc (.cells #[.int .i64 k, .bool neg, .slice A1 n1 c1, .string nm, .int .i64 ex, .int .i64 rl, .bool tr, .bool al, .slice A2 n2 c2] TT)).heap.size (w.alloc (.cells #[.int .i64 k, .bool neg, .slice A1 n1 c1, .string nm, .int .i64 ex, .int .i64 rl, .bool tr, .bool al, .slice A2 n2 c2] TT)) w' → Calls Try.prog 29 #[.agg #[.int .i64 k, .bool neg, .slice A1 n1 c1, .string nm, .int .i64 ex, .int .i64 rl, .bool tr, .bool al, .slice A2 n2 c2]] w' (StrsPost NB LB w') from fun w' hb => (bound_ref t0 _ _ w' (hlt w' hb) (htb w' hb) (by omega)).mono fun e w2 hp => by
    rw [← hLB] at hp
    obtain ⟨v, rfl, ho, hb2⟩ := hp
    have hs := StrsAt.more (StrsAt.of_own ho hlb) (fun b h => h.2)
    obtain ⟨A, c, rfl⟩ := hs.form
    rw [← hNB] at hs ⊢
    exact ⟨A, c, rfl, hs, hb2⟩)
  obtain ⟨ok, hok⟩ : ∃ b, b = renOk a1 a2 t0 := ⟨_, rfl⟩
  obtain ⟨vf, hvf⟩ : ∃ b, b = validB a1.data.toList := ⟨_, rfl⟩
  obtain ⟨ht, hht⟩ : ∃ b : Bool, (b = true ↔ a2 ∈ LF) := by classical exact ⟨decide (a2 ∈ LF), by simp⟩
  obtain ⟨hb_, hhb⟩ : ∃ b : Bool, (b = true ↔ a1 ∈ LB) := by classical exact ⟨decide (a1 ∈ LB), by simp⟩
  have hback : ok = true → vf = true → ht = false → hb_ = false → renOk a2 a1 (renT a1 a2 (canonT t0)) = true ∧ renF a2 a1 (renF a1 a2 f) = f := by
    intro e1 e2 e3 e4
    have n1 : ¬ a2 ∈ LF := fun h => by rw [hht.2 h] at e3; cases e3
    have n2 : ¬ a1 ∈ LB := fun h => by rw [hhb.2 h] at e4; cases e4
    have n3 : a1 ∉ boundN f := by rw [← bound_same hrf 0, ← hLB]; exact n2
    have n4 : ¬ isFree a2 f := fun h => n1 (by rw [hLF, ← free_same hrf]; exact (freeN_mem f a2).2 h)
    have n5 : capT a1 a2 t0 false = false := by
      rw [hok] at e1; unfold renOk at e1
      simpa using (Bool.and_eq_true_iff.1 e1).2
    refine ⟨?_, ren_back hrf n3 n5 n4⟩
    unfold renOk
    rw [← hvf, e2, cap_bound hrf2 (by rw [bound_ren]; exact n3)]; rfl
  have HVD := Lib.hid (fun w' => rvalid_any a1 w' (by omega))
  rw [← hvf] at HVD
  have HOF := Lib.hid hof
  have HNE := Lib.hid (ofF_ne hof)
  have HNE1 := Lib.hid (ofF_ne (ofF_rf hrf2))
  have HRF := Lib.hid hrf
  have HSMT := Lib.hid hsm
  have HSMF := Lib.hid hst
  have HSMG := Lib.hid hst2
  have HRF2 := Lib.hid hrf2
  have HSM2 := Lib.hid hsm2
  have HPLF := Lib.hid hpl
  have HFSZ := Lib.hid (show fsz f ≤ 100000 by omega)
  have HFS2 := Lib.hid (show fsz (renF a1 a2 f) ≤ 100000 by rw [fsz_ren]; omega)
  have HHT := Lib.hid hht
  have HHB := Lib.hid hhb
  have hcase : ok = false ∨ (ok = true ∧ vf = false) ∨ (ok = true ∧ vf = true ∧ ht = true) ∨ (ok = true ∧ vf = true ∧ ht = false ∧ hb_ = true) ∨ (ok = true ∧ vf = true ∧ ht = false ∧ hb_ = false) := by
    cases ok <;> cases vf <;> cases ht <;> cases hb_ <;> simp
  have HBK := Lib.hid hback
  have HOKD := Lib.hid hok
  clear hx hT0 hgood hgood2 hfew his hsm hnn hof hrf hpl hst hfz hcan hsmc hrf2 hsm2 hpl2 hst2 hlt htb hLF hLB hlf hlb hNF hNB hok hvf hht hhb hback
  rcases hcase with h1 | ⟨h1, h2⟩ | ⟨h1, h2, h3⟩ | ⟨h1, h2, h3, h4⟩ | ⟨h1, h2, h3, h4⟩
  · have HOK : Hid (renOk a1 a2 t0 = false) := Lib.hid (by rw [← HOKD.out]; exact h1)
    clear h1
    go_enter Try.func14, Try.ntmps14
    go_wp2_with fail
    refine (awake_any _).mono ?_
    rintro e w1 ⟨rfl, k1⟩
    obtain ⟨p0, p1, p2, p3, p4, p5, p6, p7, p8⟩ := (HXB.out _ k1).c9
    go_wp2_with (first | (go_at_call 24; (with_reducible refine (HRT.out _ k1).mono ?_); rintro e w2 ⟨rfl, hb2⟩; have k2 := hstep.out _ _ k1 hb2; obtain ⟨f0, f1, f2, f3, f4, f5, f6, f7, f8⟩ := (HXB.out _ k2).c9; clear hb2) | (go_at_call 22; (with_reducible refine (HOT.out _ k2).mono ?_); intro e w3 hp; obtain ⟨v0, rfl, hv0, hb3⟩ := hp.yes HOF.out; obtain ⟨u0, z0, rfl⟩ := hv0.iface HNE.out; have HV0 := Lib.hid hv0; have k3 := hstep.out _ _ k2 hb3; clear hb3 hv0 hp) | (go_at_call 48; refine (frename_any HRF.out HSMT.out HSMF.out _ _ w3 (fun b h => h.2) HV0.out h401 h402 HFSZ.out).mono ?_; intro e w4 hp; obtain ⟨rfl, hb4⟩ := hp.2 HOK.out; have k4 := hstep.out _ _ k3 hb4; obtain ⟨d0, d1, d2, d3, d4, d5, d6, d7, d8⟩ := (HXB.out _ k4).c9; clear hb4 hp) | (go_at_call 49; (with_reducible refine (HRR.out _ k4).mono ?_); intro e w5 hp; obtain ⟨rfl, hb5⟩ := hp.2 HOK.out; have k5 := hstep.out _ _ k4 hb5; clear hb5 hp))
    go_ret
    exact ⟨rfl, fin.out _ (k5.alloc k5.size _)⟩
  · have HOK : Hid (renOk a1 a2 t0 = true) := Lib.hid (by rw [← HOKD.out]; exact h1)
    have HVF := Lib.hid h2
    clear h1 h2
    go_enter Try.func14, Try.ntmps14
    go_wp2_with fail
    refine (awake_any _).mono ?_
    rintro e w1 ⟨rfl, k1⟩
    obtain ⟨p0, p1, p2, p3, p4, p5, p6, p7, p8⟩ := (HXB.out _ k1).c9
    go_wp2_with (first | (go_at_call 24; (with_reducible refine (HRT.out _ k1).mono ?_); rintro e w2 ⟨rfl, hb2⟩; have k2 := hstep.out _ _ k1 hb2; obtain ⟨f0, f1, f2, f3, f4, f5, f6, f7, f8⟩ := (HXB.out _ k2).c9; clear hb2) | (go_at_call 22; (with_reducible refine (HOT.out _ k2).mono ?_); intro e w3 hp; obtain ⟨v0, rfl, hv0, hb3⟩ := hp.yes HOF.out; obtain ⟨u0, z0, rfl⟩ := hv0.iface HNE.out; have HV0 := Lib.hid hv0; have k3 := hstep.out _ _ k2 hb3; clear hb3 hv0 hp) | (go_at_call 48; refine (frename_any HRF.out HSMT.out HSMF.out _ _ w3 (fun b h => h.2) HV0.out h401 h402 HFSZ.out).mono ?_; intro e w4 hp; obtain ⟨v1, rfl, hv1, hb4⟩ := hp.1 HOK.out; obtain ⟨u1, z1, rfl⟩ := hv1.iface HNE1.out; have HV1 := Lib.hid hv1; have HB4 := Lib.hid hb4; clear hv1; have k4 := hstep.out _ _ k3 hb4; obtain ⟨d0, d1, d2, d3, d4, d5, d6, d7, d8⟩ := (HXB.out _ k4).c9; clear hb4 hp) | (go_at_call 49; (with_reducible refine (HRR.out _ k4).mono ?_); intro e w5 hp; obtain ⟨T, A3, n3, c3, A4, n4, c4, hTT, rfl, hT, hb5⟩ := hp.1 HOK.out; have HT5 := Lib.hid hT; have HTT := Lib.hid hTT; have HB5 := Lib.hid hb5; obtain ⟨W5, hW5⟩ : ∃ W5, w5.alloc (.cells #[.int .i64 T.h.k, .bool T.h.neg, .slice A3 n3 c3, .string T.h.name, .int .i64 T.h.exp, .int .i64 T.h.rel, .bool T.h.truth, .bool T.h.all, .slice A4 n4 c4] TT) = W5 := ⟨_, rfl⟩; have hy : Box w5 W5 w5.heap.size #[.int .i64 T.h.k, .bool T.h.neg, .slice A3 n3 c3, .string T.h.name, .int .i64 T.h.exp, .int .i64 T.h.rel, .bool T.h.truth, .bool T.h.all, .slice A4 n4 c4] TT := (by rw [← hW5]; exact Box.new w5 _ _); have HY := Lib.hid hy; obtain ⟨y0, y1, y2, y3, y4, y5, y6, y7, y8⟩ := hy.c9; clear hT hTT hy; have k5 := hstep.out _ _ k4 hb5; clear hb5 hp))
    have c5 : Below w5.heap.size w5 W5 := HY.out.below
    have q5 : Below w4.heap.size w4 W5 := HB5.out.trans (c5.mono HB5.out.size)
    have hst4 := Lib.hid (show ∀ wc wn, Below w4.heap.size w4 wc → Below wc.heap.size wc wn → Below w4.heap.size w4 wn from fun wc wn h1 h2 => h1.trans (h2.mono h1.size))
    have hto1 := Lib.hid (show ∀ wc, Below w4.heap.size w4 wc → Below (w.alloc (.cells #[.int .i64 k, .bool neg, .slice A1 n1 c1, .string nm, .int .i64 ex, .int .i64 rl, .bool tr, .bool al, .slice A2 n2 c2] TT)).heap.size (w.alloc (.cells #[.int .i64 k, .bool neg, .slice A1 n1 c1, .string nm, .int .i64 ex, .int .i64 rl, .bool tr, .bool al, .slice A2 n2 c2] TT)) wc from fun wc h => k4.trans (h.mono k4.size))
    have HPL := Lib.hid (show ∀ w', Below w4.heap.size w4 w' → Calls Try.prog 23 #[.iface u1 z1] w' (TreePost T w') from fun w' hb => by
      have h := plain_any (renF a1 a2 f) (.iface u1 z1) (Fr w3 w4) w' (fun b h => Nat.lt_of_lt_of_le h.2 hb.size) (HV1.out.below (fun b h => h.2) hb) HSMG.out
      rw [plain_ren, HPLF.out, ← HTT.out] at h
      exact h)
    have HTY := Lib.hid (show ∀ w', Below W5.heap.size W5 w' → TreeAt w' (Fr w4 w5) T (hdC T.h (.slice A3 n3 c3) (.slice A4 n4 c4)) from fun w' hb => (HT5.out.below (fun b h => h.2) c5).below (fun b h => Nat.lt_of_lt_of_le h.2 c5.size) hb)
    have HD : Below W5.heap.size W5 W5.drew := (Below.refl _ W5).drew
    have q6 : Below w4.heap.size w4 W5.drew := q5.drew
    have s5 := c5.size
    clear hW5 c5
    go_region_held3 (fun w' => w'.cell? ⟨w5.heap.size, 0, none⟩ = some (.int .i64 T.h.k) ∧ w'.cell? ⟨w5.heap.size, 1, none⟩ = some (.bool T.h.neg) ∧ w'.cell? ⟨w5.heap.size, 2, none⟩ = some (.slice A3 n3 c3) ∧ w'.cell? ⟨w5.heap.size, 3, none⟩ = some (.string T.h.name) ∧ w'.cell? ⟨w5.heap.size, 4, none⟩ = some (.int .i64 T.h.exp) ∧ w'.cell? ⟨w5.heap.size, 5, none⟩ = some (.int .i64 T.h.rel) ∧ w'.cell? ⟨w5.heap.size, 6, none⟩ = some (.bool T.h.truth) ∧ w'.cell? ⟨w5.heap.size, 7, none⟩ = some (.bool T.h.all) ∧ w'.cell? ⟨w5.heap.size, 8, none⟩ = some (.slice A4 n4 c4)) (go_keep)
      (first
        | (go_at_call 23; refine (HPL.out _ q6).mono ?_; rintro e w6 ⟨e1, e2, e3, e4, e5, e6, rfl, htA, hbA⟩; have HTA := Lib.hid htA; have h5A := HD.trans hbA; have HBA := Lib.hid h5A; have q7 := hst4.out _ _ q6 hbA; obtain ⟨x0, x1, x2, x3, x4, x5, x6, x7, x8⟩ := (HY.out.step h5A).c9; clear htA hbA h5A)
        | (go_at_call 19; refine (same_any T T (hdC T.h (.slice e1 e2 e3) (.slice e4 e5 e6)) (hdC T.h (.slice A3 n3 c3) (.slice A4 n4 c4)) (fun b => b < w6.heap.size) true w6 (fun b h => h) (TreeAt.more (fun b h => h.2) _ _ HTA.out) (TreeAt.more (fun b h => (by have h1 := h.2; have h2 := HBA.out.size; omega)) _ _ (HTY.out _ HBA.out)) ⟨fun _ => rfl, fun _ => rfl⟩).mono ?_; rintro e w7 ⟨rfl, hb7⟩; have q8 := hst4.out _ _ q7 hb7; obtain ⟨zz0, zz1, zz2, zz3, zz4, zz5, zz6, zz7, zz8⟩ := ((HY.out.step HBA.out).step hb7).c9; clear hb7))
    go_wp2_with (first | (go_at_call 46; refine (HVD.out _).mono ?_; rintro e w8 ⟨rfl, hb8⟩; rw [HVF.out]; have q9 := hst4.out _ _ q8 hb8; obtain ⟨b0, b1, b2, b3, b4, b5, b6, b7, b8⟩ := (HXB.out _ (hto1.out _ q9)).c9; clear hb8))
    go_ret
    exact ⟨rfl, fin.out _ (hto1.out _ q9)⟩
  · have HOK : Hid (renOk a1 a2 t0 = true) := Lib.hid (by rw [← HOKD.out]; exact h1)
    have HVF := Lib.hid h2
    have HHTV := Lib.hid h3
    clear h1 h2 h3
    go_enter Try.func14, Try.ntmps14
    go_wp2_with fail
    refine (awake_any _).mono ?_
    rintro e w1 ⟨rfl, k1⟩
    obtain ⟨p0, p1, p2, p3, p4, p5, p6, p7, p8⟩ := (HXB.out _ k1).c9
    go_wp2_with (first | (go_at_call 24; (with_reducible refine (HRT.out _ k1).mono ?_); rintro e w2 ⟨rfl, hb2⟩; have k2 := hstep.out _ _ k1 hb2; obtain ⟨f0, f1, f2, f3, f4, f5, f6, f7, f8⟩ := (HXB.out _ k2).c9; clear hb2) | (go_at_call 22; (with_reducible refine (HOT.out _ k2).mono ?_); intro e w3 hp; obtain ⟨v0, rfl, hv0, hb3⟩ := hp.yes HOF.out; obtain ⟨u0, z0, rfl⟩ := hv0.iface HNE.out; have HV0 := Lib.hid hv0; have k3 := hstep.out _ _ k2 hb3; clear hb3 hv0 hp) | (go_at_call 48; refine (frename_any HRF.out HSMT.out HSMF.out _ _ w3 (fun b h => h.2) HV0.out h401 h402 HFSZ.out).mono ?_; intro e w4 hp; obtain ⟨v1, rfl, hv1, hb4⟩ := hp.1 HOK.out; obtain ⟨u1, z1, rfl⟩ := hv1.iface HNE1.out; have HV1 := Lib.hid hv1; have HB4 := Lib.hid hb4; clear hv1; have k4 := hstep.out _ _ k3 hb4; obtain ⟨d0, d1, d2, d3, d4, d5, d6, d7, d8⟩ := (HXB.out _ k4).c9; clear hb4 hp) | (go_at_call 49; (with_reducible refine (HRR.out _ k4).mono ?_); intro e w5 hp; obtain ⟨T, A3, n3, c3, A4, n4, c4, hTT, rfl, hT, hb5⟩ := hp.1 HOK.out; have HT5 := Lib.hid hT; have HTT := Lib.hid hTT; have HB5 := Lib.hid hb5; obtain ⟨W5, hW5⟩ : ∃ W5, w5.alloc (.cells #[.int .i64 T.h.k, .bool T.h.neg, .slice A3 n3 c3, .string T.h.name, .int .i64 T.h.exp, .int .i64 T.h.rel, .bool T.h.truth, .bool T.h.all, .slice A4 n4 c4] TT) = W5 := ⟨_, rfl⟩; have hy : Box w5 W5 w5.heap.size #[.int .i64 T.h.k, .bool T.h.neg, .slice A3 n3 c3, .string T.h.name, .int .i64 T.h.exp, .int .i64 T.h.rel, .bool T.h.truth, .bool T.h.all, .slice A4 n4 c4] TT := (by rw [← hW5]; exact Box.new w5 _ _); have HY := Lib.hid hy; obtain ⟨y0, y1, y2, y3, y4, y5, y6, y7, y8⟩ := hy.c9; clear hT hTT hy; have k5 := hstep.out _ _ k4 hb5; clear hb5 hp))
    have c5 : Below w5.heap.size w5 W5 := HY.out.below
    have q5 : Below w4.heap.size w4 W5 := HB5.out.trans (c5.mono HB5.out.size)
    have hst4 := Lib.hid (show ∀ wc wn, Below w4.heap.size w4 wc → Below wc.heap.size wc wn → Below w4.heap.size w4 wn from fun wc wn h1 h2 => h1.trans (h2.mono h1.size))
    have hto1 := Lib.hid (show ∀ wc, Below w4.heap.size w4 wc → Below (w.alloc (.cells #[.int .i64 k, .bool neg, .slice A1 n1 c1, .string nm, .int .i64 ex, .int .i64 rl, .bool tr, .bool al, .slice A2 n2 c2] TT)).heap.size (w.alloc (.cells #[.int .i64 k, .bool neg, .slice A1 n1 c1, .string nm, .int .i64 ex, .int .i64 rl, .bool tr, .bool al, .slice A2 n2 c2] TT)) wc from fun wc h => k4.trans (h.mono k4.size))
    have HPL := Lib.hid (show ∀ w', Below w4.heap.size w4 w' → Calls Try.prog 23 #[.iface u1 z1] w' (TreePost T w') from fun w' hb => by
      have h := plain_any (renF a1 a2 f) (.iface u1 z1) (Fr w3 w4) w' (fun b h => Nat.lt_of_lt_of_le h.2 hb.size) (HV1.out.below (fun b h => h.2) hb) HSMG.out
      rw [plain_ren, HPLF.out, ← HTT.out] at h
      exact h)
    have HTY := Lib.hid (show ∀ w', Below W5.heap.size W5 w' → TreeAt w' (Fr w4 w5) T (hdC T.h (.slice A3 n3 c3) (.slice A4 n4 c4)) from fun w' hb => (HT5.out.below (fun b h => h.2) c5).below (fun b h => Nat.lt_of_lt_of_le h.2 c5.size) hb)
    have HD : Below W5.heap.size W5 W5.drew := (Below.refl _ W5).drew
    have q6 : Below w4.heap.size w4 W5.drew := q5.drew
    have s5 := c5.size
    clear hW5 c5
    go_region_held3 (fun w' => w'.cell? ⟨w5.heap.size, 0, none⟩ = some (.int .i64 T.h.k) ∧ w'.cell? ⟨w5.heap.size, 1, none⟩ = some (.bool T.h.neg) ∧ w'.cell? ⟨w5.heap.size, 2, none⟩ = some (.slice A3 n3 c3) ∧ w'.cell? ⟨w5.heap.size, 3, none⟩ = some (.string T.h.name) ∧ w'.cell? ⟨w5.heap.size, 4, none⟩ = some (.int .i64 T.h.exp) ∧ w'.cell? ⟨w5.heap.size, 5, none⟩ = some (.int .i64 T.h.rel) ∧ w'.cell? ⟨w5.heap.size, 6, none⟩ = some (.bool T.h.truth) ∧ w'.cell? ⟨w5.heap.size, 7, none⟩ = some (.bool T.h.all) ∧ w'.cell? ⟨w5.heap.size, 8, none⟩ = some (.slice A4 n4 c4)) (go_keep)
      (first
        | (go_at_call 23; refine (HPL.out _ q6).mono ?_; rintro e w6 ⟨e1, e2, e3, e4, e5, e6, rfl, htA, hbA⟩; have HTA := Lib.hid htA; have h5A := HD.trans hbA; have HBA := Lib.hid h5A; have q7 := hst4.out _ _ q6 hbA; obtain ⟨x0, x1, x2, x3, x4, x5, x6, x7, x8⟩ := (HY.out.step h5A).c9; clear htA hbA h5A)
        | (go_at_call 19; refine (same_any T T (hdC T.h (.slice e1 e2 e3) (.slice e4 e5 e6)) (hdC T.h (.slice A3 n3 c3) (.slice A4 n4 c4)) (fun b => b < w6.heap.size) true w6 (fun b h => h) (TreeAt.more (fun b h => h.2) _ _ HTA.out) (TreeAt.more (fun b h => (by have h1 := h.2; have h2 := HBA.out.size; omega)) _ _ (HTY.out _ HBA.out)) ⟨fun _ => rfl, fun _ => rfl⟩).mono ?_; rintro e w7 ⟨rfl, hb7⟩; have q8 := hst4.out _ _ q7 hb7; obtain ⟨zz0, zz1, zz2, zz3, zz4, zz5, zz6, zz7, zz8⟩ := ((HY.out.step HBA.out).step hb7).c9; clear hb7))
    go_wp2_with (first | (go_at_call 46; refine (HVD.out _).mono ?_; rintro e w8 ⟨rfl, hb8⟩; rw [HVF.out]; have q9 := hst4.out _ _ q8 hb8; obtain ⟨b0, b1, b2, b3, b4, b5, b6, b7, b8⟩ := (HXB.out _ (hto1.out _ q9)).c9; clear hb8) | (go_at_call 27; refine (HFR.out _ (hto1.out _ q9)).mono ?_; intro e w9 hq; obtain ⟨aF, mF, rfl, hsF, hlF⟩ := hq; have HSF := Lib.hid hsF; have q10 := hst4.out _ _ q9 hlF; obtain ⟨g0, g1, g2, g3, g4, g5, g6, g7, g8⟩ := (HXB.out _ (hto1.out _ q10)).c9; clear hsF hlF) | (go_at_call 50; (with_reducible refine (has_any LF (.slice aF NF mF) a2 _ w9 HSF.out ht HHT.out).mono ?_); rintro e w' ⟨rfl, rfl⟩; rw [HHTV.out]))
    go_ret
    exact ⟨rfl, fin.out _ (hto1.out _ q10)⟩
  · have HOK : Hid (renOk a1 a2 t0 = true) := Lib.hid (by rw [← HOKD.out]; exact h1)
    have HVF := Lib.hid h2
    have HHTV := Lib.hid h3
    have HHBV := Lib.hid h4
    clear h1 h2 h3 h4
    go_enter Try.func14, Try.ntmps14
    go_wp2_with fail
    refine (awake_any _).mono ?_
    rintro e w1 ⟨rfl, k1⟩
    obtain ⟨p0, p1, p2, p3, p4, p5, p6, p7, p8⟩ := (HXB.out _ k1).c9
    go_wp2_with (first | (go_at_call 24; (with_reducible refine (HRT.out _ k1).mono ?_); rintro e w2 ⟨rfl, hb2⟩; have k2 := hstep.out _ _ k1 hb2; obtain ⟨f0, f1, f2, f3, f4, f5, f6, f7, f8⟩ := (HXB.out _ k2).c9; clear hb2) | (go_at_call 22; (with_reducible refine (HOT.out _ k2).mono ?_); intro e w3 hp; obtain ⟨v0, rfl, hv0, hb3⟩ := hp.yes HOF.out; obtain ⟨u0, z0, rfl⟩ := hv0.iface HNE.out; have HV0 := Lib.hid hv0; have k3 := hstep.out _ _ k2 hb3; clear hb3 hv0 hp) | (go_at_call 48; refine (frename_any HRF.out HSMT.out HSMF.out _ _ w3 (fun b h => h.2) HV0.out h401 h402 HFSZ.out).mono ?_; intro e w4 hp; obtain ⟨v1, rfl, hv1, hb4⟩ := hp.1 HOK.out; obtain ⟨u1, z1, rfl⟩ := hv1.iface HNE1.out; have HV1 := Lib.hid hv1; have HB4 := Lib.hid hb4; clear hv1; have k4 := hstep.out _ _ k3 hb4; obtain ⟨d0, d1, d2, d3, d4, d5, d6, d7, d8⟩ := (HXB.out _ k4).c9; clear hb4 hp) | (go_at_call 49; (with_reducible refine (HRR.out _ k4).mono ?_); intro e w5 hp; obtain ⟨T, A3, n3, c3, A4, n4, c4, hTT, rfl, hT, hb5⟩ := hp.1 HOK.out; have HT5 := Lib.hid hT; have HTT := Lib.hid hTT; have HB5 := Lib.hid hb5; obtain ⟨W5, hW5⟩ : ∃ W5, w5.alloc (.cells #[.int .i64 T.h.k, .bool T.h.neg, .slice A3 n3 c3, .string T.h.name, .int .i64 T.h.exp, .int .i64 T.h.rel, .bool T.h.truth, .bool T.h.all, .slice A4 n4 c4] TT) = W5 := ⟨_, rfl⟩; have hy : Box w5 W5 w5.heap.size #[.int .i64 T.h.k, .bool T.h.neg, .slice A3 n3 c3, .string T.h.name, .int .i64 T.h.exp, .int .i64 T.h.rel, .bool T.h.truth, .bool T.h.all, .slice A4 n4 c4] TT := (by rw [← hW5]; exact Box.new w5 _ _); have HY := Lib.hid hy; obtain ⟨y0, y1, y2, y3, y4, y5, y6, y7, y8⟩ := hy.c9; clear hT hTT hy; have k5 := hstep.out _ _ k4 hb5; clear hb5 hp))
    have c5 : Below w5.heap.size w5 W5 := HY.out.below
    have q5 : Below w4.heap.size w4 W5 := HB5.out.trans (c5.mono HB5.out.size)
    have hst4 := Lib.hid (show ∀ wc wn, Below w4.heap.size w4 wc → Below wc.heap.size wc wn → Below w4.heap.size w4 wn from fun wc wn h1 h2 => h1.trans (h2.mono h1.size))
    have hto1 := Lib.hid (show ∀ wc, Below w4.heap.size w4 wc → Below (w.alloc (.cells #[.int .i64 k, .bool neg, .slice A1 n1 c1, .string nm, .int .i64 ex, .int .i64 rl, .bool tr, .bool al, .slice A2 n2 c2] TT)).heap.size (w.alloc (.cells #[.int .i64 k, .bool neg, .slice A1 n1 c1, .string nm, .int .i64 ex, .int .i64 rl, .bool tr, .bool al, .slice A2 n2 c2] TT)) wc from fun wc h => k4.trans (h.mono k4.size))
    have HPL := Lib.hid (show ∀ w', Below w4.heap.size w4 w' → Calls Try.prog 23 #[.iface u1 z1] w' (TreePost T w') from fun w' hb => by
      have h := plain_any (renF a1 a2 f) (.iface u1 z1) (Fr w3 w4) w' (fun b h => Nat.lt_of_lt_of_le h.2 hb.size) (HV1.out.below (fun b h => h.2) hb) HSMG.out
      rw [plain_ren, HPLF.out, ← HTT.out] at h
      exact h)
    have HTY := Lib.hid (show ∀ w', Below W5.heap.size W5 w' → TreeAt w' (Fr w4 w5) T (hdC T.h (.slice A3 n3 c3) (.slice A4 n4 c4)) from fun w' hb => (HT5.out.below (fun b h => h.2) c5).below (fun b h => Nat.lt_of_lt_of_le h.2 c5.size) hb)
    have HD : Below W5.heap.size W5 W5.drew := (Below.refl _ W5).drew
    have q6 : Below w4.heap.size w4 W5.drew := q5.drew
    have s5 := c5.size
    clear hW5 c5
    go_region_held3 (fun w' => w'.cell? ⟨w5.heap.size, 0, none⟩ = some (.int .i64 T.h.k) ∧ w'.cell? ⟨w5.heap.size, 1, none⟩ = some (.bool T.h.neg) ∧ w'.cell? ⟨w5.heap.size, 2, none⟩ = some (.slice A3 n3 c3) ∧ w'.cell? ⟨w5.heap.size, 3, none⟩ = some (.string T.h.name) ∧ w'.cell? ⟨w5.heap.size, 4, none⟩ = some (.int .i64 T.h.exp) ∧ w'.cell? ⟨w5.heap.size, 5, none⟩ = some (.int .i64 T.h.rel) ∧ w'.cell? ⟨w5.heap.size, 6, none⟩ = some (.bool T.h.truth) ∧ w'.cell? ⟨w5.heap.size, 7, none⟩ = some (.bool T.h.all) ∧ w'.cell? ⟨w5.heap.size, 8, none⟩ = some (.slice A4 n4 c4)) (go_keep)
      (first
        | (go_at_call 23; refine (HPL.out _ q6).mono ?_; rintro e w6 ⟨e1, e2, e3, e4, e5, e6, rfl, htA, hbA⟩; have HTA := Lib.hid htA; have h5A := HD.trans hbA; have HBA := Lib.hid h5A; have q7 := hst4.out _ _ q6 hbA; obtain ⟨x0, x1, x2, x3, x4, x5, x6, x7, x8⟩ := (HY.out.step h5A).c9; clear htA hbA h5A)
        | (go_at_call 19; refine (same_any T T (hdC T.h (.slice e1 e2 e3) (.slice e4 e5 e6)) (hdC T.h (.slice A3 n3 c3) (.slice A4 n4 c4)) (fun b => b < w6.heap.size) true w6 (fun b h => h) (TreeAt.more (fun b h => h.2) _ _ HTA.out) (TreeAt.more (fun b h => (by have h1 := h.2; have h2 := HBA.out.size; omega)) _ _ (HTY.out _ HBA.out)) ⟨fun _ => rfl, fun _ => rfl⟩).mono ?_; rintro e w7 ⟨rfl, hb7⟩; have q8 := hst4.out _ _ q7 hb7; obtain ⟨zz0, zz1, zz2, zz3, zz4, zz5, zz6, zz7, zz8⟩ := ((HY.out.step HBA.out).step hb7).c9; clear hb7))
    go_wp2_with (first | (go_at_call 46; refine (HVD.out _).mono ?_; rintro e w8 ⟨rfl, hb8⟩; rw [HVF.out]; have q9 := hst4.out _ _ q8 hb8; obtain ⟨b0, b1, b2, b3, b4, b5, b6, b7, b8⟩ := (HXB.out _ (hto1.out _ q9)).c9; clear hb8) | (go_at_call 27; refine (HFR.out _ (hto1.out _ q9)).mono ?_; intro e w9 hq; obtain ⟨aF, mF, rfl, hsF, hlF⟩ := hq; have HSF := Lib.hid hsF; have q10 := hst4.out _ _ q9 hlF; obtain ⟨g0, g1, g2, g3, g4, g5, g6, g7, g8⟩ := (HXB.out _ (hto1.out _ q10)).c9; clear hsF hlF) | (go_at_call 50; (with_reducible refine (has_any LF (.slice aF NF mF) a2 _ w9 HSF.out ht HHT.out).mono ?_); rintro e w' ⟨rfl, rfl⟩; rw [HHTV.out]) | (go_at_call 29; refine (HBD.out _ (hto1.out _ q10)).mono ?_; intro e w10 hq; obtain ⟨aB, mB, rfl, hsB, hlB⟩ := hq; have HSB := Lib.hid hsB; have q11 := hst4.out _ _ q10 hlB; clear hsB hlB) | (go_at_call 50; (with_reducible refine (has_any LB (.slice aB NB mB) a1 _ w10 HSB.out hb_ HHB.out).mono ?_); rintro e w' ⟨rfl, rfl⟩; rw [HHBV.out]))
    go_ret
    exact ⟨rfl, fin.out _ (hto1.out _ q11)⟩
  · have HOK : Hid (renOk a1 a2 t0 = true) := Lib.hid (by rw [← HOKD.out]; exact h1)
    have HOK2 := Lib.hid (HBK.out h1 h2 h3 h4).1
    have HBACK := Lib.hid (HBK.out h1 h2 h3 h4).2
    have HVF := Lib.hid h2
    have HHTV := Lib.hid h3
    have HHBV := Lib.hid h4
    clear h1 h2 h3 h4
    go_enter Try.func14, Try.ntmps14
    go_wp2_with fail
    refine (awake_any _).mono ?_
    rintro e w1 ⟨rfl, k1⟩
    obtain ⟨p0, p1, p2, p3, p4, p5, p6, p7, p8⟩ := (HXB.out _ k1).c9
    go_wp2_with (first | (go_at_call 24; (with_reducible refine (HRT.out _ k1).mono ?_); rintro e w2 ⟨rfl, hb2⟩; have k2 := hstep.out _ _ k1 hb2; obtain ⟨f0, f1, f2, f3, f4, f5, f6, f7, f8⟩ := (HXB.out _ k2).c9; clear hb2) | (go_at_call 22; (with_reducible refine (HOT.out _ k2).mono ?_); intro e w3 hp; obtain ⟨v0, rfl, hv0, hb3⟩ := hp.yes HOF.out; obtain ⟨u0, z0, rfl⟩ := hv0.iface HNE.out; have HV0 := Lib.hid hv0; have k3 := hstep.out _ _ k2 hb3; clear hb3 hv0 hp) | (go_at_call 48; refine (frename_any HRF.out HSMT.out HSMF.out _ _ w3 (fun b h => h.2) HV0.out h401 h402 HFSZ.out).mono ?_; intro e w4 hp; obtain ⟨v1, rfl, hv1, hb4⟩ := hp.1 HOK.out; obtain ⟨u1, z1, rfl⟩ := hv1.iface HNE1.out; have HV1 := Lib.hid hv1; have HB4 := Lib.hid hb4; clear hv1; have k4 := hstep.out _ _ k3 hb4; obtain ⟨d0, d1, d2, d3, d4, d5, d6, d7, d8⟩ := (HXB.out _ k4).c9; clear hb4 hp) | (go_at_call 49; (with_reducible refine (HRR.out _ k4).mono ?_); intro e w5 hp; obtain ⟨T, A3, n3, c3, A4, n4, c4, hTT, rfl, hT, hb5⟩ := hp.1 HOK.out; have HT5 := Lib.hid hT; have HTT := Lib.hid hTT; have HB5 := Lib.hid hb5; obtain ⟨W5, hW5⟩ : ∃ W5, w5.alloc (.cells #[.int .i64 T.h.k, .bool T.h.neg, .slice A3 n3 c3, .string T.h.name, .int .i64 T.h.exp, .int .i64 T.h.rel, .bool T.h.truth, .bool T.h.all, .slice A4 n4 c4] TT) = W5 := ⟨_, rfl⟩; have hy : Box w5 W5 w5.heap.size #[.int .i64 T.h.k, .bool T.h.neg, .slice A3 n3 c3, .string T.h.name, .int .i64 T.h.exp, .int .i64 T.h.rel, .bool T.h.truth, .bool T.h.all, .slice A4 n4 c4] TT := (by rw [← hW5]; exact Box.new w5 _ _); have HY := Lib.hid hy; obtain ⟨y0, y1, y2, y3, y4, y5, y6, y7, y8⟩ := hy.c9; clear hT hTT hy; have k5 := hstep.out _ _ k4 hb5; clear hb5 hp))
    have c5 : Below w5.heap.size w5 W5 := HY.out.below
    have q5 : Below w4.heap.size w4 W5 := HB5.out.trans (c5.mono HB5.out.size)
    have hst4 := Lib.hid (show ∀ wc wn, Below w4.heap.size w4 wc → Below wc.heap.size wc wn → Below w4.heap.size w4 wn from fun wc wn h1 h2 => h1.trans (h2.mono h1.size))
    have hto1 := Lib.hid (show ∀ wc, Below w4.heap.size w4 wc → Below (w.alloc (.cells #[.int .i64 k, .bool neg, .slice A1 n1 c1, .string nm, .int .i64 ex, .int .i64 rl, .bool tr, .bool al, .slice A2 n2 c2] TT)).heap.size (w.alloc (.cells #[.int .i64 k, .bool neg, .slice A1 n1 c1, .string nm, .int .i64 ex, .int .i64 rl, .bool tr, .bool al, .slice A2 n2 c2] TT)) wc from fun wc h => k4.trans (h.mono k4.size))
    have HPL := Lib.hid (show ∀ w', Below w4.heap.size w4 w' → Calls Try.prog 23 #[.iface u1 z1] w' (TreePost T w') from fun w' hb => by
      have h := plain_any (renF a1 a2 f) (.iface u1 z1) (Fr w3 w4) w' (fun b h => Nat.lt_of_lt_of_le h.2 hb.size) (HV1.out.below (fun b h => h.2) hb) HSMG.out
      rw [plain_ren, HPLF.out, ← HTT.out] at h
      exact h)
    have HTY := Lib.hid (show ∀ w', Below W5.heap.size W5 w' → TreeAt w' (Fr w4 w5) T (hdC T.h (.slice A3 n3 c3) (.slice A4 n4 c4)) from fun w' hb => (HT5.out.below (fun b h => h.2) c5).below (fun b h => Nat.lt_of_lt_of_le h.2 c5.size) hb)
    have HD : Below W5.heap.size W5 W5.drew := (Below.refl _ W5).drew
    have q6 : Below w4.heap.size w4 W5.drew := q5.drew
    have s5 := c5.size
    clear hW5 c5
    go_region_held3 (fun w' => w'.cell? ⟨w5.heap.size, 0, none⟩ = some (.int .i64 T.h.k) ∧ w'.cell? ⟨w5.heap.size, 1, none⟩ = some (.bool T.h.neg) ∧ w'.cell? ⟨w5.heap.size, 2, none⟩ = some (.slice A3 n3 c3) ∧ w'.cell? ⟨w5.heap.size, 3, none⟩ = some (.string T.h.name) ∧ w'.cell? ⟨w5.heap.size, 4, none⟩ = some (.int .i64 T.h.exp) ∧ w'.cell? ⟨w5.heap.size, 5, none⟩ = some (.int .i64 T.h.rel) ∧ w'.cell? ⟨w5.heap.size, 6, none⟩ = some (.bool T.h.truth) ∧ w'.cell? ⟨w5.heap.size, 7, none⟩ = some (.bool T.h.all) ∧ w'.cell? ⟨w5.heap.size, 8, none⟩ = some (.slice A4 n4 c4)) (go_keep)
      (first
        | (go_at_call 23; refine (HPL.out _ q6).mono ?_; rintro e w6 ⟨e1, e2, e3, e4, e5, e6, rfl, htA, hbA⟩; have HTA := Lib.hid htA; have h5A := HD.trans hbA; have HBA := Lib.hid h5A; have q7 := hst4.out _ _ q6 hbA; obtain ⟨x0, x1, x2, x3, x4, x5, x6, x7, x8⟩ := (HY.out.step h5A).c9; clear htA hbA h5A)
        | (go_at_call 19; refine (same_any T T (hdC T.h (.slice e1 e2 e3) (.slice e4 e5 e6)) (hdC T.h (.slice A3 n3 c3) (.slice A4 n4 c4)) (fun b => b < w6.heap.size) true w6 (fun b h => h) (TreeAt.more (fun b h => h.2) _ _ HTA.out) (TreeAt.more (fun b h => (by have h1 := h.2; have h2 := HBA.out.size; omega)) _ _ (HTY.out _ HBA.out)) ⟨fun _ => rfl, fun _ => rfl⟩).mono ?_; rintro e w7 ⟨rfl, hb7⟩; have q8 := hst4.out _ _ q7 hb7; obtain ⟨zz0, zz1, zz2, zz3, zz4, zz5, zz6, zz7, zz8⟩ := ((HY.out.step HBA.out).step hb7).c9; clear hb7))
    go_wp2_with (first | (go_at_call 46; refine (HVD.out _).mono ?_; rintro e w8 ⟨rfl, hb8⟩; rw [HVF.out]; have q9 := hst4.out _ _ q8 hb8; obtain ⟨b0, b1, b2, b3, b4, b5, b6, b7, b8⟩ := (HXB.out _ (hto1.out _ q9)).c9; clear hb8) | (go_at_call 27; refine (HFR.out _ (hto1.out _ q9)).mono ?_; intro e w9 hq; obtain ⟨aF, mF, rfl, hsF, hlF⟩ := hq; have HSF := Lib.hid hsF; have q10 := hst4.out _ _ q9 hlF; obtain ⟨g0, g1, g2, g3, g4, g5, g6, g7, g8⟩ := (HXB.out _ (hto1.out _ q10)).c9; clear hsF hlF) | (go_at_call 50; (with_reducible refine (has_any LF (.slice aF NF mF) a2 _ w9 HSF.out ht HHT.out).mono ?_); rintro e w' ⟨rfl, rfl⟩; rw [HHTV.out]) | (go_at_call 29; refine (HBD.out _ (hto1.out _ q10)).mono ?_; intro e w10 hq; obtain ⟨aB, mB, rfl, hsB, hlB⟩ := hq; have HSB := Lib.hid hsB; have q11 := hst4.out _ _ q10 hlB; clear hsB hlB) | (go_at_call 50; (with_reducible refine (has_any LB (.slice aB NB mB) a1 _ w10 HSB.out hb_ HHB.out).mono ?_); rintro e w' ⟨rfl, rfl⟩; rw [HHBV.out]) | (go_at_call 48; refine (frename_any HRF2.out HSM2.out HSMG.out (.iface u1 z1) (Fr w3 w4) w10 (fun b h => Nat.lt_of_lt_of_le h.2 q11.size) (HV1.out.below (fun b h => h.2) q11) h402 h401 HFS2.out).mono ?_; intro e w11 hp; obtain ⟨v2, rfl, hv2, hb11⟩ := hp.1 HOK2.out; (rw [HBACK.out] at hv2); obtain ⟨u2, z2, rfl⟩ := hv2.iface HNE.out; have HV2 := Lib.hid hv2; have HB11 := Lib.hid hb11; have q12 := hst4.out _ _ q11 hb11; clear hp hv2 hb11) | (go_at_call 44; refine (fsame_any f f (.iface u2 z2) (.iface u0 z0) (fun b => b < w11.heap.size) w11 (fun b h => h) (FoAt.more (fun b h => h.2) _ _ HV2.out) (FoAt.more (fun b h => Nat.lt_of_lt_of_le h.2 (Nat.le_trans HB4.out.size q12.size)) _ _ ((HV0.out.below (fun b h => h.2) HB4.out).below (fun b h => Nat.lt_of_lt_of_le h.2 HB4.out.size) q12)) HSMF.out HSMF.out true ⟨fun _ => rfl, fun _ => rfl⟩).mono ?_; rintro e w12 ⟨rfl, hb12⟩; have q13 := hst4.out _ _ q12 hb12; clear hb12))
    go_ret
    exact ⟨rfl, fin.out _ (hto1.out _ q13)⟩

theorem walk (t0 : Tr) (cs0 : List Value) (a1 a2 : ByteArray) (w1 : a1.size ≤ maxLen) (w2 : a2.size ≤ maxLen) (w : World) (hT0 : TreeAt w (fun b => b < w.heap.size) t0 cs0) :
    Calls Try.prog 14 #[.agg cs0.toArray, .string a1, .string a2] w fun e w' => e = .returned (.bool true) ∧ Below w.heap.size w w' := by
  by_cases h1 : rightB t0 = true
  · by_cases h2 : a1.size ≤ 40
    · by_cases h3 : a2.size ≤ 40
      · exact yes t0 cs0 a1 a2 h1 h2 h3 w hT0
      · exact no t0 cs0 a1 a2 (.inr (.inr (by omega))) w hT0
    · exact no t0 cs0 a1 a2 (.inr (.inl (by omega))) w hT0
  · exact no t0 cs0 a1 a2 (.inl (by simpa using h1)) w hT0

theorem laidOut : laidOutB Try.prog = true := by kernel_rfl

theorem own : ownKnob Try.prog.godebug = none := by kernel_rfl

set_option maxRecDepth 100000 in
theorem lifted (os : Os) (started : os.Started) (H : Type) (enc : TypeId × Value → H) :
    ReturnsInHanded {} Try.checked os 14 .any (Rows.formulaRenamesSpec.pre6 enc Try.prog Try.f14 Rows.formulaRenamesRow.domain false) (Rows.formulaRenamesSpec.post enc Try.prog Try.f14 false true false false) := by
  refine returnsInHanded_of_change (C := Try.checked) own started (by kernel_rfl) Try.func14
    (ChangeSpec.witness6 (enc := enc) (C := Try.checked) false ⟨#[], #[.agg #[.int .i64 0, .bool false, .slice none 0 0, .string ByteArray.empty, .int .i64 0, .int .i64 0, .bool false, .bool false, .slice none 0 0], .string ByteArray.empty, .string ByteArray.empty], []⟩ 8 (by kernel_rfl) (by kernel_rfl) (by kernel_rfl) (by kernel_rfl)) ?_
  intro W base args ds gs before hval0 hW hcnd _
  have hval : ∀ (j : Nat) t v, Try.f14.params[j]? = some t → args[j]? = some v → Value.okWide Try.prog W .any base t v := hval0
  have hW' := hW
  obtain ⟨p, q, hA0, hV, rfl, hfz, hnd⟩ := hW
  have hA : DataW.TrodAll enc Try.prog W 0 (fun _ => true) true Try.f14.params.toList args.toList ds p := hA0
  rw [Try.params14] at hA hval
  obtain ⟨v0, vs0, d0, ds0, p0, q0, hargs, rfl, rfl, h0, r0⟩ := trodAll_cons hA
  obtain ⟨v1, vs1, d1, ds1, p1, q1, rfl, rfl, rfl, h1, r1⟩ := trodAll_cons r0
  obtain ⟨v2, vs2, d2, ds2, p2, q2, rfl, rfl, rfl, h2, r2⟩ := trodAll_cons r1
  obtain ⟨rfl, rfl, rfl⟩ := trodAll_nil r2
  obtain rfl : args = #[v0, v1, v2] := by cases args; simp_all
  obtain ⟨rfl, rfl⟩ := trodVars_none hV
  obtain ⟨cs0, rfl, hl0⟩ := okWide_struct Try.underlying29 (hval 0 29 v0 rfl rfl)
  have hl0' : cs0.toList.length = 9 := by rw [show Try.prog.cellsOf 29 = 9 by kernel_rfl] at hl0; simpa using hl0
  have h0k := h0
  obtain ⟨fuel0, hf0⟩ := h0
  obtain ⟨t0, hT0⟩ := open_tree fuel0 fuel0 (Nat.le_refl _) _ _ hl0' hf0
  obtain ⟨a1, rfl, rfl, rfl, w1⟩ := open_string Try.underlying9 (hval 1 9 v1 rfl rfl) h1
  obtain ⟨a2, rfl, rfl, rfl, w2⟩ := open_string Try.underlying9 (hval 2 9 v2 rfl rfl) h2
  clear hA0 hval0
  simp only [List.append_nil] at hW'
  have hlt0 : ∀ x ∈ p0, x.block < W.heap.size := fun x hx => by simpa using hW'.lt x (by simp [hx])
  refine (walk t0 cs0.toList a1 a2 w1 w2 W hT0).mono fun e W' ⟨he, bel⟩ => ?_
  subst he
  exact ⟨_, rfl, _, _, _, [], _, [], hW', trodAll_mk1 (shut_bool Try.underlying4 _), (trodAll_cons_mk (Below.trod laidOut (by kernel_rfl) (of_decide_eq_true (by kernel_rfl)) h0k bel hlt0) (trodAll_cons_mk (shut_string Try.underlying9 w1) (trodAll_cons_mk (shut_string Try.underlying9 w2) trodAll_mk0))), rfl, bel.frame _, fun h => by cases h⟩

theorem over : Rows.formulaRenamesRow.holds Try.pinned (OpenSpec.ofChange Rows.formulaRenamesSpec) :=
  OpenClaim.holds_of_wide 14 Try.f14 rfl rfl rfl rfl rfl rfl rfl ⟨rfl, rfl, rfl, rfl, rfl⟩ rfl rfl rfl rfl rfl (by kernel_rfl) Try.func14 (by kernel_rfl)
    (of_decide_eq_true (by kernel_rfl)) (by unfold Func.isWrapper; first | (rw [if_pos (by decide +kernel)]; kernel_rfl) | (rw [if_neg (by decide +kernel)]; exact ⟨rfl, rfl⟩))
    (fun os started H enc _ => lifted os started H enc)

/-- THE STATEMENT -/
theorem proved : Rows.FormulaRenamesSaid := over
end Go.Proofs.Ytjbgdaojhdobkaa.formulaRenames
