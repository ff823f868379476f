/-
  formula.Rename, and the reference's Rename.
-/
import Derived.Test.YtjbgdaojhdobkaaRnI
import Derived.Test.YtjbgdaojhdobkaaRnS
import Derived.Test.YtjbgdaojhdobkaaSpF
import Derived.Test.YtjbgdaojhdobkaaFmOf
import Derived.Test.YtjbgdaojhdobkaaFmFr
import Derived.Test.YtjbgdaojhdobkaaVa
namespace Go.Proofs.Ytjbgdaojhdobkaa
open Go.RowKit
set_option linter.unusedSimpArgs false
set_option linter.unusedVariables false
namespace Rn
open Fm Va
variable {fr to_ : ByteArray}

theorem smL_map {g : Tr → Tr} : ∀ {ks : List Tr}, SmL ks → (∀ k ∈ ks, Sm k → Sm (g k)) → SmL (ks.map g)
  | [], _, _ => by show SmL []; unfold SmL; trivial
  | k :: ks, hs, h => by
    unfold SmL at hs
    show SmL (g k :: ks.map g)
    unfold SmL
    exact ⟨h k (List.mem_cons_self ..) hs.1, smL_map hs.2 (fun x hx => h x (List.mem_cons_of_mem _ hx))⟩
theorem sm_ren (hto : to_.size ≤ 40) : ∀ t : Tr, Sm t → Sm (renT fr to_ t) := by
  refine Tr.ind fun h ks ih => ?_
  intro hs
  rw [renT_mk]
  split
  · exact hs
  · unfold Sm at hs ⊢
    refine ⟨?_, ?_, smL_map hs.2.2 ih⟩
    · split
      · exact hs.1
      · exact hs.1
    · split
      · exact hto
      · exact hs.2.1
/-- nothing stands against it -/
def renOk (fr to_ : ByteArray) (t : Tr) : Bool := validB to_.data.toList && !capT fr to_ t false
def RenPost (fr to_ : ByteArray) (t : Tr) (f : Fo) (w : World) (e : Ending) (w' : World) : Prop :=
  (renOk fr to_ t = true → ∃ v', e = .returned (.tuple #[v', .int .i64 0]) ∧ FoAt w' (Fr w w') (renF fr to_ f) v' ∧ Below w.heap.size w w') ∧
  (renOk fr to_ t = false → e = .returned (.tuple #[.nilIface, .int .i64 7]) ∧ Below w.heap.size w w')
theorem RenPost.mkNo {t : Tr} {f : Fo} {w w' : World} (h : renOk fr to_ t = false) (hb : Below w.heap.size w w') : RenPost fr to_ t f w (.returned (.tuple #[.nilIface, .int .i64 7])) w' :=
  ⟨fun e => (by rw [h] at e; cases e), fun _ => ⟨rfl, hb⟩⟩
theorem RenPost.mkYes {t : Tr} {f : Fo} {w w' : World} {v : Value} (h : renOk fr to_ t = true) (hv : FoAt w' (Fr w w') (renF fr to_ f) v) (hb : Below w.heap.size w w') : RenPost fr to_ t f w (.returned (.tuple #[v, .int .i64 0])) w' :=
  ⟨fun _ => ⟨v, rfl, hv, hb⟩, fun e => (by rw [h] at e; cases e)⟩

set_option maxRecDepth 100000 in
set_option maxHeartbeats 8000000 in
theorem frename_any {t : Tr} {f : Fo} (hrf : RF t f) (hsmT : Sm t) (hsm : SmF f) (v : Value) (S : Nat → Prop) (w : World) (hS : ∀ b, S b → b < w.heap.size) (hT : FoAt w S f v) (hfs : fr.size ≤ 40) (hts : to_.size ≤ 40) (hf : fsz f ≤ 100000) :
    Calls Try.prog 48 #[v, .string fr, .string to_] w (RenPost fr to_ t f w) := by
  have hmm := @run_makeMap Try.prog
  have hv := valid_any to_
  obtain ⟨R, hR⟩ : ∃ R, R = validB to_.data.toList := ⟨_, rfl⟩
  rw [← hR] at hv
  have HV := Lib.hid (fun w' => hv w' (by omega))
  clear hv
  cases R
  · have hno : renOk fr to_ t = false := by unfold renOk; rw [← hR]; rfl
    have HNO := Lib.hid hno
    clear hno hR
    go_enter Try.func48, Try.ntmps48
    go_wp2_with (go_at_call 45; refine (HV.out _).mono ?_; rintro e w' ⟨rfl, rfl⟩)
    go_ret2
    exact RenPost.mkNo HNO.out (((Below.refl _ w).alloc (Nat.le_refl _) _).alloc (by simp) _)
  obtain ⟨B, hB⟩ : ∃ B, B = w.heap.size := ⟨_, rfl⟩
  obtain ⟨W, hW⟩ : ∃ W, ((((w.alloc (.cells #[.string fr] 9)).alloc (.cells #[.string to_] 9)).alloc (.cells #[.bool false] 4)).alloc (.map #[] 0)).alloc (.cells #[.map (some (w.heap.size + 1 + 1 + 1))] 114) = W := ⟨_, rfl⟩
  have hWs : W.heap.size = B + 5 := by rw [← hW, hB]; simp
  have hbW : Below w.heap.size w W := by
    rw [← hW]
    exact (((((Below.refl _ w).alloc (Nat.le_refl _) _).alloc (by simp) _).alloc (by simp; omega) _).alloc (by simp; omega) _).alloc (by simp; omega) _
  have hJ0 : RnJ fr to_ B false (rnF B) W := by
    refine ⟨?_, ?_, ?_, ?_, rfl⟩
    · rw [← hW, hB, Below.heap_alloc _ _ _ (by simp; try omega), Below.heap_alloc _ _ _ (by simp; try omega), Below.heap_alloc _ _ _ (by simp; try omega), Below.heap_alloc _ _ _ (by simp; try omega)]
      exact heap_alloc_new w _
    · rw [← hW, hB, Below.heap_alloc _ _ _ (by simp; try omega), Below.heap_alloc _ _ _ (by simp; try omega), Below.heap_alloc _ _ _ (by simp; try omega)]
      have h := heap_alloc_new (w.alloc (.cells #[.string fr] tStr)) (.cells #[.string to_] tStr)
      simpa using h
    · rw [← hW, hB, Below.heap_alloc _ _ _ (by simp), Below.heap_alloc _ _ _ (by simp)]
      have h := heap_alloc_new ((w.alloc (.cells #[.string fr] tStr)).alloc (.cells #[.string to_] tStr)) (.cells #[.bool false] tB)
      simpa using h
    · have h := heap_alloc_new ((((w.alloc (.cells #[.string fr] tStr)).alloc (.cells #[.string to_] tStr)).alloc (.cells #[.bool false] tB)).alloc (.map #[] 0)) (.cells #[.map (some (w.heap.size + 1 + 1 + 1))] tMI)
      rw [← hW, hB]
      simpa using h
  have hM0 : MapI W (B + 3) 0 (fun _ => 0) := by
    have h := MapI.made (((w.alloc (.cells #[.string fr] tStr)).alloc (.cells #[.string to_] tStr)).alloc (.cells #[.bool false] tB))
    have e : (((w.alloc (.cells #[.string fr] tStr)).alloc (.cells #[.string to_] tStr)).alloc (.cells #[.bool false] tB)).heap.size = B + 3 := by rw [hB]; simp
    rw [e] at h
    rw [← hW]; exact h.keep (Below.heap_alloc _ _ _ (by rw [hB]; simp))
  have hSn : ∀ b, S b → b < B := fun b hb => by rw [hB]; exact hS b hb
  obtain ⟨C, hCd⟩ : ∃ C, C = capT fr to_ t false := ⟨_, rfl⟩
  have hcap : walkS (rnStep fr to_) f (fun _ => 0) false = C := by rw [cap_fo hrf (fun _ => 0) false rfl (fun _ => Int.le_refl _), hCd]; rfl
  have hC : Calls Try.prog 62 #[v, .map (some (B + 3)), .func (.func 80) #[] (rnCaps B)] W (WPost (RnJ fr to_ B) (B + 3) C (fun _ => 0) (0 + 2 * fsz f) (rnF B) W) := by
    have h := walk_any (rn_use (by omega) (by omega)) f v S (rnF B) false (fun _ => 0) 0 0 W (fun b hb => by
      have h1 := hSn b hb
      refine ⟨by omega, ?_⟩
      rintro ((e | e | e | e) | e) <;> omega) (hT.below hS hbW) hJ0 hM0 (by rintro (e | e | e | e) <;> omega) (by omega) (fun _ => ⟨Int.le_refl _, Int.le_refl _⟩) (by omega) (by simp; omega)
    rw [hcap] at h
    exact h
  rw [hB] at hC
  have HC := Lib.hid hC
  have HW := Lib.hid hW
  have HBW := Lib.hid hbW
  have HWS := Lib.hid hWs
  have HB := Lib.hid hB
  have HT := Lib.hid hT
  have HSN := Lib.hid hSn
  have HOK := Lib.hid (show renOk fr to_ t = !C by unfold renOk; rw [← hR, hCd]; simp)
  have HSM := Lib.hid hsm
  have hcan := rf_canon hrf
  obtain ⟨hpl, -⟩ := plainF_of hrf hsmT
  have HOF := Lib.hid (show ofF (renT fr to_ (plainF f)) = some (renF fr to_ f) by rw [hpl]; exact ofF_rf (ren_fo hcan))
  have HSR := Lib.hid (show Sm (renT fr to_ (plainF f)) by rw [hpl]; exact sm_ren hts _ (sm_canon hsmT))
  have HTS := Lib.hid hts
  clear hC hW hbW hWs hB hT hSn hR hCd hcap hM0 hJ0 hcan hpl hsm hsmT hS hrf hfs hts
  cases C
  · go_enter Try.func48, Try.ntmps48
    go_wp2_with (first
      | (go_at_call 45; refine (HV.out _).mono ?_; rintro e w' ⟨rfl, rfl⟩)
      | (go_at_call 62; rw [HW.out]; refine HC.out.mono ?_; intro e w2 hp; obtain ⟨rfl, F', k', hJ', _, _, _, ho⟩ := hp; obtain ⟨j1, j2, j3, j4, rfl⟩ := hJ'; have HO2 := Lib.hid ho; have HJ1 := Lib.hid j1; have HJ2 := Lib.hid j2; have c0 : w2.cell? ⟨w.heap.size + 1 + 1, 0, none⟩ = some (.bool false) := cell_of_blk j3 rfl; have c1 : w2.cell? ⟨w.heap.size, 0, none⟩ = some (.string fr) := cell_of_blk j1 rfl; have c2 : w2.cell? ⟨w.heap.size + 1, 0, none⟩ = some (.string to_) := cell_of_blk j2 rfl; clear ho j1 j2 j3 j4))
    have hs2 := HO2.out.size
    have hws := HWS.out
    have hB := HB.out
    have hTA : FoAt w2 S f v := (HT.out.below (fun b h => by have := HSN.out b h; omega) HBW.out).owns HO2.out (fun b hb => by
      have h1 := HSN.out b hb
      exact ⟨by omega, by rintro (e | e | e | e) <;> omega⟩)
    have hb2 : Below w.heap.size w w2 := HBW.out.trans (HO2.out.below (by omega) (fun b hb => by rcases hb with e | e | e | e <;> omega))
    have HPL := Lib.hid (show ∀ w', Below w2.heap.size w2 w' → Calls Try.prog 23 #[v] w' (SpPost (plainF f) w') from fun w' hb => sp_any f v S w' (fun b h => by have := HSN.out b h; have := hb.size; omega) (hTA.below (fun b h => by have := HSN.out b h; omega) hb) HSM.out)
    have HD : Below w2.heap.size w2 w2.drew := (Below.refl _ w2).drew
    obtain ⟨T, hTd⟩ : ∃ T, T = plainF f := ⟨_, rfl⟩
    obtain ⟨T2, hT2⟩ : ∃ T2, T2 = renT fr to_ T := ⟨_, rfl⟩
    have HREN := Lib.hid (show ∀ (S' : Nat → Prop) (cs : List Value) (w' : World), (∀ x, S' x → x < w'.heap.size) → TreeSp w' S' T cs → Calls Try.prog 81 #[.agg cs.toArray, .string fr, .string to_] w' (InPost S' T2 w') from fun S' cs w' h1 h2 => by rw [hT2]; exact renamed_in fr to_ (by have := HTS.out; omega) T cs S' w' h1 h2)
    have HOFT := Lib.hid (show ∀ (S' : Nat → Prop) (cs : List Value) (w' : World), (∀ x, S' x → x < w'.heap.size) → TreeAt w' S' T2 cs → Calls Try.prog 22 #[.agg cs.toArray] w' (OfPost T2 w') from fun S' cs w' h1 h2 => of_any T2 cs S' w' h1 h2 (by rw [hT2, hTd]; exact HSR.out))
    have HOF2 : Hid (ofF T2 = some (renF fr to_ f)) := Lib.hid (by rw [hT2, hTd]; exact HOF.out)
    rw [← hTd] at HPL
    have HB2 := Lib.hid hb2
    have hBl : w.heap.size + 5 ≤ w2.heap.size := by omega
    have sd : w2.heap.size ≤ w2.drew.heap.size := Nat.le_refl _
    clear hTA hb2 hTd hT2 hB hs2 hws
    go_region_held3 (fun w' => w'.cell? ⟨w.heap.size, 0, none⟩ = some (.string fr) ∧ w'.cell? ⟨w.heap.size + 1, 0, none⟩ = some (.string to_)) (go_keep)
      (first
        | (go_at_call 23; refine (HPL.out _ HD).mono ?_; rintro e wA ⟨a1, a2, a3, a4, a5, a6, rfl, htA, hbA⟩; have HTA := Lib.hid htA; have HBA := Lib.hid hbA; have d1 : wA.cell? ⟨w.heap.size, 0, none⟩ = some (.string fr) := (hbA.cell (p := ⟨w.heap.size, 0, none⟩) (show w.heap.size < w2.heap.size by omega)).trans c1; have d2 : wA.cell? ⟨w.heap.size + 1, 0, none⟩ = some (.string to_) := (hbA.cell (p := ⟨w.heap.size + 1, 0, none⟩) (show w.heap.size + 1 < w2.heap.size by omega)).trans c2; clear htA hbA)
        | (go_at_call 81; refine (HREN.out _ (hdC T.h (.slice a1 a2 a3) (.slice a4 a5 a6)) _ (fun x hx => hx.2) HTA.out).mono ?_; rintro e wB ⟨b1, b2, b3, b4, b5, b6, rfl, htB, hoB⟩; have HTB := Lib.hid htB; have HOB := Lib.hid hoB; have HBB := Lib.hid (hoB.below w2.heap.size (fun b hb => hb.1) HBA.out.size); have e1 : wB.cell? ⟨w.heap.size, 0, none⟩ = some (.string fr) := (HBB.out.cell (p := ⟨w.heap.size, 0, none⟩) (show w.heap.size < w2.heap.size by omega)).trans d1; have e2 : wB.cell? ⟨w.heap.size + 1, 0, none⟩ = some (.string to_) := (HBB.out.cell (p := ⟨w.heap.size + 1, 0, none⟩) (show w.heap.size + 1 < w2.heap.size by omega)).trans d2; clear htB hoB)
        | (go_at_call 22; (obtain ⟨Sn, q1, q2⟩ := HTB.out); refine (HOFT.out Sn (hdC T2.h (.slice b1 b2 b3) (.slice b4 b5 b6)) _ (fun x hx => (q2 x hx).2) (TreeSp.at_ _ _ _ q1)).mono ?_; clear q1 q2; intro e wC hp; obtain ⟨vC, rfl, hvC, hbC⟩ := hp.yes HOF2.out; have HVC := Lib.hid hvC; have HBC := Lib.hid hbC; have f1 : wC.cell? ⟨w.heap.size, 0, none⟩ = some (.string fr) := (hbC.cell (p := ⟨w.heap.size, 0, none⟩) (show w.heap.size < wB.heap.size by have := HBB.out.size; have := HBA.out.size; omega)).trans e1; have f2 : wC.cell? ⟨w.heap.size + 1, 0, none⟩ = some (.string to_) := (hbC.cell (p := ⟨w.heap.size + 1, 0, none⟩) (show w.heap.size + 1 < wB.heap.size by have := HBB.out.size; have := HBA.out.size; omega)).trans e2; clear hvC hbC hp))
    go_wp2
    go_ret2
    have sA := HBA.out.size
    have sB := HBB.out.size
    have hbA : Below w.heap.size w wA := HB2.out.drew.trans (HBA.out.mono (by omega))
    have hbB : Below w.heap.size w wB := hbA.trans (HBB.out.mono (by omega))
    have hbC : Below w.heap.size w wC := hbB.trans (HBC.out.mono (by omega))
    exact RenPost.mkYes HOK.out (FoAt.more (fun b hb => ⟨by have := hb.1; omega, hb.2⟩) _ _ HVC.out) hbC
  · go_enter Try.func48, Try.ntmps48
    go_wp2_with (first
      | (go_at_call 45; refine (HV.out _).mono ?_; rintro e w' ⟨rfl, rfl⟩)
      | (go_at_call 62; rw [HW.out]; refine HC.out.mono ?_; intro e w2 hp; obtain ⟨rfl, F', k', hJ', _, _, _, ho⟩ := hp; obtain ⟨j1, j2, j3, j4, rfl⟩ := hJ'; have HO2 := Lib.hid ho; have c0 : w2.cell? ⟨w.heap.size + 1 + 1, 0, none⟩ = some (.bool true) := cell_of_blk j3 rfl; clear ho j1 j2 j3 j4))
    go_ret2
    have hws := HWS.out
    have hB := HB.out
    have hs2 := HO2.out.size
    exact RenPost.mkNo HOK.out (HBW.out.trans (HO2.out.below (by omega) (fun b hb => by rcases hb with e | e | e | e <;> omega)))

/-! ### the reference's Rename -/
def RRenPost (fr to_ : ByteArray) (t : Tr) (w : World) (e : Ending) (w' : World) : Prop :=
  (renOk fr to_ t = true → ∃ T A1 n1 c1 A2 n2 c2, T = renT fr to_ (canonT t) ∧ e = .returned (.tuple #[.agg #[.int .i64 T.h.k, .bool T.h.neg, .slice A1 n1 c1, .string T.h.name, .int .i64 T.h.exp, .int .i64 T.h.rel, .bool T.h.truth, .bool T.h.all, .slice A2 n2 c2], .int .i64 0]) ∧ TreeAt w' (Fr w w') T (hdC T.h (.slice A1 n1 c1) (.slice A2 n2 c2)) ∧ Below w.heap.size w w') ∧
  (renOk fr to_ t = false → e = .returned (.tuple #[.agg #[.int .i64 0, .bool false, .slice none 0 0, .string ⟨#[]⟩, .int .i64 0, .int .i64 0, .bool false, .bool false, .slice none 0 0], .int .i64 7]) ∧ Below w.heap.size w w')
theorem RRenPost.mkNo {t : Tr} {w w' : World} (h : renOk fr to_ t = false) (hb : Below w.heap.size w w') : RRenPost fr to_ t w (.returned (.tuple #[.agg #[.int .i64 0, .bool false, .slice none 0 0, .string ⟨#[]⟩, .int .i64 0, .int .i64 0, .bool false, .bool false, .slice none 0 0], .int .i64 7])) w' :=
  ⟨fun e => (by rw [h] at e; cases e), fun _ => ⟨rfl, hb⟩⟩
theorem RRenPost.mkYes {t T : Tr} {w w' : World} {A1 A2 : Option Addr} {n1 c1 n2 c2 : Nat} (h : renOk fr to_ t = true) (hT : T = renT fr to_ (canonT t)) (hv : TreeAt w' (Fr w w') T (hdC T.h (.slice A1 n1 c1) (.slice A2 n2 c2))) (hb : Below w.heap.size w w') : RRenPost fr to_ t w (.returned (.tuple #[.agg #[.int .i64 T.h.k, .bool T.h.neg, .slice A1 n1 c1, .string T.h.name, .int .i64 T.h.exp, .int .i64 T.h.rel, .bool T.h.truth, .bool T.h.all, .slice A2 n2 c2], .int .i64 0])) w' :=
  ⟨fun _ => ⟨T, A1, n1, c1, A2, n2, c2, hT, rfl, hv, hb⟩, fun e => (by rw [h] at e; cases e)⟩
mutual
theorem nn_canT : ∀ t : Tr, nn (canonT t) = nn t
  | .mk h ks => by rw [canonT_mk]; unfold nn; rw [nnL_canL ks]
theorem nnL_canL : ∀ ks : List Tr, nnL (canonL ks) = nnL ks
  | [] => by unfold canonL; rfl
  | k :: ks => by unfold canonL nnL; rw [nn_canT k, nnL_canL ks]
end

attribute [local go_sem] run_store
set_option maxRecDepth 100000 in
set_option maxHeartbeats 8000000 in
theorem rrename_any (t : Tr) (hsm : Sm t) (hnn : nn t ≤ 100000) (cs : List Value) (S : Nat → Prop) (w : World) (hS : ∀ b, S b → b < w.heap.size) (hT : TreeAt w S t cs) (hfs : fr.size ≤ 40) (hts : to_.size ≤ 40) :
    Calls Try.prog 49 #[.agg cs.toArray, .string fr, .string to_] w (RRenPost fr to_ t w) := by
  obtain ⟨A1, n1, c1, A2, n2, c2, xs, rfl, -, -, -, -, -, -, -, -⟩ := hT.named
  obtain ⟨h, hh⟩ : ∃ h, h = t.h := ⟨_, rfl⟩
  rw [← hh] at hT ⊢
  obtain ⟨W, hW⟩ : ∃ W, (w.alloc (.cells #[.int .i64 h.k, .bool h.neg, .slice A1 n1 c1, .string h.name, .int .i64 h.exp, .int .i64 h.rel, .bool h.truth, .bool h.all, .slice A2 n2 c2] TT)).alloc (.cells #[.int .i64 0, .bool false, .slice none 0 0, .string ⟨#[]⟩, .int .i64 0, .int .i64 0, .bool false, .bool false, .slice none 0 0] TT) = W := ⟨_, rfl⟩
  have hx : Box w W w.heap.size #[.int .i64 h.k, .bool h.neg, .slice A1 n1 c1, .string h.name, .int .i64 h.exp, .int .i64 h.rel, .bool h.truth, .bool h.all, .slice A2 n2 c2] TT := by rw [← hW]; exact (Box.new w _ _).alloc _
  have hr : Box w W (w.heap.size + 1) #[.int .i64 0, .bool false, .slice none 0 0, .string ⟨#[]⟩, .int .i64 0, .int .i64 0, .bool false, .bool false, .slice none 0 0] TT := by rw [← hW]; exact Box.second w _ _ _
  have hws : w.heap.size + 2 ≤ W.heap.size := by rw [← hW]; simp
  have hv := rvalid_any to_
  obtain ⟨R, hR⟩ : ∃ R, R = validB to_.data.toList := ⟨_, rfl⟩
  rw [← hR] at hv
  obtain ⟨C, hCd⟩ : ∃ C, C = capT fr to_ t false := ⟨_, rfl⟩
  have HV := Lib.hid (fun w' => hv w' (by omega))
  have HCP := Lib.hid (show ∀ w', Below w.heap.size w w' → Calls Try.prog 82 #[.agg #[.int .i64 h.k, .bool h.neg, .slice A1 n1 c1, .string h.name, .int .i64 h.exp, .int .i64 h.rel, .bool h.truth, .bool h.all, .slice A2 n2 c2], .string fr, .string to_, .bool false] w' fun e w2 => e = .returned (.bool C) ∧ Below w'.heap.size w' w2 from fun w' hb => by rw [hCd]; exact captured_any fr to_ t _ S false w' (fun b h => by have := hS b h; have := hb.size; omega) (hT.below hS hb))
  have HCN := Lib.hid (show ∀ w', Below w.heap.size w w' → Calls Try.prog 21 #[.agg #[.int .i64 h.k, .bool h.neg, .slice A1 n1 c1, .string h.name, .int .i64 h.exp, .int .i64 h.rel, .bool h.truth, .bool h.all, .slice A2 n2 c2]] w' (TreePost (canonT t) w') from fun w' hb => canon_any t _ S w' (fun b h => by have := hS b h; have := hb.size; omega) (hT.below hS hb) hsm hnn)
  obtain ⟨T, hTd⟩ : ∃ T, T = canonT t := ⟨_, rfl⟩
  obtain ⟨T2, hT2⟩ : ∃ T2, T2 = renT fr to_ T := ⟨_, rfl⟩
  have HRN := Lib.hid (show ∀ (S' : Nat → Prop) (cs : List Value) (w' : World), (∀ x, S' x → x < w'.heap.size) → TreeAt w' S' T cs → Calls Try.prog 83 #[.agg cs.toArray, .string fr, .string to_] w' (RnPost S' T2 w') from fun S' cs w' h1 h2 => by rw [hT2]; exact ren_any fr to_ (by omega) T cs S' w' h1 h2 (by rw [hTd, nn_canT]; exact hnn))
  have HTT := Lib.hid (show T2 = renT fr to_ (canonT t) by rw [hT2, hTd])
  rw [← hTd] at HCN
  have HOK := Lib.hid (show renOk fr to_ t = (R && !C) by unfold renOk; rw [← hR, hCd])
  have HX := Lib.hid hx
  have HRB := Lib.hid hr
  have hstep := Lib.hid (show ∀ wc wn, Below w.heap.size w wc → Below wc.heap.size wc wn → Below w.heap.size w wn from fun wc wn h1 h2 => h1.trans (h2.mono h1.size))
  have HBW := Lib.hid hx.below
  clear hx hr hT2 hTd hCd hR hT hv hS hh hsm
  unfold hdC
  cases R
  · go_enter Try.func49, Try.ntmps49
    go_wp2_with (go_at_call 46; refine (HV.out _).mono ?_; rintro e w1 ⟨rfl, hb1⟩; have hX1 := HRB.out.step hb1; have zc := hX1.cell; have zf := hX1.fz; have hw1 := hX1.below)
    refine bodyPost_ret (v := .tuple #[.agg #[.int .i64 0, .bool false, .slice none 0 0, .string ⟨#[]⟩, .int .i64 0, .int .i64 0, .bool false, .bool false, .slice none 0 0], .int .i64 7]) (by simp [results, Try.results49, go_sem, zc, zf]) rfl ?_
    exact RRenPost.mkNo HOK.out (below_set9 hw1 (Nat.le_succ _) _ _ _ _ _ _ _ _ _)
  · cases C
    · go_enter Try.func49, Try.ntmps49
      go_wp2_with (first
        | (go_at_call 46; refine (HV.out _).mono ?_; rintro e w1 ⟨rfl, hb1⟩; have hX1 := HX.out.step hb1; have HR1 := Lib.hid (HRB.out.step hb1); obtain ⟨g0, g1, g2, g3, g4, g5, g6, g7, g8⟩ := hX1.c9; have hw1 := hX1.below; have HX1 := Lib.hid hX1; clear hX1 hb1)
        | (go_at_call 82; refine (HCP.out _ hw1).mono ?_; rintro e w2 ⟨rfl, hb2⟩; have hX2 := HX1.out.step hb2; have HR2 := Lib.hid (HR1.out.step hb2); obtain ⟨f0, f1, f2, f3, f4, f5, f6, f7, f8⟩ := hX2.c9; have hw2 := hX2.below; clear hX2 hb2)
        | (go_at_call 21; refine (HCN.out _ hw2).mono ?_; rintro e w3 ⟨a1, a2, a3, a4, a5, a6, rfl, htA, hb3⟩; have HTA := Lib.hid htA; have HB3 := Lib.hid hb3; have HR3 := Lib.hid (HR2.out.step hb3); clear htA hb3)
        | (go_at_call 83; refine (HRN.out _ (hdC T.h (.slice a1 a2 a3) (.slice a4 a5 a6)) _ (fun x hx => hx.2) HTA.out).mono ?_; rintro e w4 ⟨b1, b2, b3, b4, b5, b6, rfl, htB, hb4⟩; have HTB := Lib.hid htB; have HB4 := Lib.hid hb4; have hR4 := HR3.out.step hb4; have zc := hR4.cell; have zf := hR4.fz; have hw4 := hR4.below; clear htB hb4 hR4))
      refine bodyPost_ret (v := .tuple #[.agg #[.int .i64 T2.h.k, .bool T2.h.neg, .slice b1 b2 b3, .string T2.h.name, .int .i64 T2.h.exp, .int .i64 T2.h.rel, .bool T2.h.truth, .bool T2.h.all, .slice b4 b5 b6], .int .i64 0]) (by simp [results, Try.results49, go_sem, zc, zf]) rfl ?_
      have s2 := hw2.size
      have s3 := HB3.out.size
      have s4 := HB4.out.size
      have sR := HR2.out.lt
      refine RRenPost.mkYes HOK.out HTT.out (TreeAt.more (fun b hb => ?_) _ _ (HTB.out.set9 (X := w.heap.size + 1) (fun hb => ?_) _ _ _ _ _ _ _ _ _)) (below_set9 hw4 (Nat.le_succ _) _ _ _ _ _ _ _ _ _)
      · rw [show Fr w _ b = (w.heap.size ≤ b ∧ b < _) from rfl, size_set9]
        rcases hb with ⟨h1, h2⟩ | ⟨h1, h2⟩ <;> omega
      · rcases hb with ⟨h1, h2⟩ | ⟨h1, h2⟩ <;> omega
    · go_enter Try.func49, Try.ntmps49
      go_wp2_with (first
        | (go_at_call 46; refine (HV.out _).mono ?_; rintro e w1 ⟨rfl, hb1⟩; have hX1 := HX.out.step hb1; have HR1 := Lib.hid (HRB.out.step hb1); obtain ⟨g0, g1, g2, g3, g4, g5, g6, g7, g8⟩ := hX1.c9; have hw1 := hX1.below; clear hX1 hb1)
        | (go_at_call 82; refine (HCP.out _ hw1).mono ?_; rintro e w2 ⟨rfl, hb2⟩; have hR2 := HR1.out.step hb2; have zc := hR2.cell; have zf := hR2.fz; have hw2 := hR2.below; clear hR2 hb2))
      refine bodyPost_ret (v := .tuple #[.agg #[.int .i64 0, .bool false, .slice none 0 0, .string ⟨#[]⟩, .int .i64 0, .int .i64 0, .bool false, .bool false, .slice none 0 0], .int .i64 7]) (by simp [results, Try.results49, go_sem, zc, zf]) rfl ?_
      exact RRenPost.mkNo HOK.out (below_set9 hw2 (Nat.le_succ _) _ _ _ _ _ _ _ _ _)
end Rn
end Go.Proofs.Ytjbgdaojhdobkaa
