/-
  cylinderlaw37.matching; a text without a pair of parentheses.
-/
import Derived.Test.YtkjbfomokdjbnaaGreatDoorRdL
import Derived.Test.YtkjbfomokdjbnaaGreatDoorReg
namespace Go.Proofs.YtkjbfomokdjbnaaGreatDoor
open Go.RowKit
set_option linter.unusedSimpArgs false
set_option linter.unusedVariables false
namespace Rd
open Lx Fm Dc Pr Pa
def stp2 (n : Int) (c : UInt8) : Int := if c.toNat = 40 then n + 1 else if c.toNat = 41 then n - 1 else n
def mt (n : Int) : Bytes → Option Nat
  | [] => none
  | c :: r => if stp2 n c = 0 then some 0 else (mt (stp2 n c) r).map (· + 1)
def mR (n : Int) (i : Nat) (l : Bytes) : Int := match mt n (l.drop i) with
  | some k => ((i + k : Nat) : Int)
  | none => -1
theorem mR_end {n : Int} {i : Nat} {l : Bytes} (h : l.length ≤ i) : mR n i l = -1 := by
  unfold mR
  rw [List.drop_eq_nil_iff.2 h]
  rfl
theorem mR_hit {n : Int} {i : Nat} {l : Bytes} (h : i < l.length) (h0 : stp2 n l[i] = 0) : mR n i l = i := by
  unfold mR
  rw [List.drop_eq_getElem_cons h]
  unfold mt
  rw [if_pos h0]
  rfl
theorem mR_step {n : Int} {i : Nat} {l : Bytes} (h : i < l.length) (h0 : stp2 n l[i] ≠ 0) : mR n i l = mR (stp2 n l[i]) (i + 1) l := by
  unfold mR
  rw [List.drop_eq_getElem_cons h]
  conv => lhs; unfold mt
  rw [if_neg h0]
  cases mt (stp2 n l[i]) (l.drop (i + 1)) with
  | none => rfl
  | some k => show ((i + (k + 1) : Nat) : Int) = ((i + 1 + k : Nat) : Int); omega
theorem get_list (s : ByteArray) (i : Nat) (h : i < s.size) : s.data.toList[i]'h = s[i] := rfl
theorem eq_nat (c : UInt8) (k : Nat) (hk : k < 256) : c = UInt8.ofNat k ↔ c.toNat = k := by
  constructor
  · rintro rfl; simp [UInt8.toNat_ofNat]; omega
  · intro h; rw [← h]; simp
set_option maxRecDepth 100000 in
set_option maxHeartbeats 4000000 in
theorem matching_any (s : ByteArray) (a : Nat) (m : Int) (hm : m = mR 0 a s.data.toList) (ha : a ≤ s.size) (hs : s.size ≤ 1000000) (w : World) :
    Calls Tryz.prog 13 #[.string s, .int .i64 a] w fun e w' => e = .returned (.int .i64 m) ∧ w = w' := by
  have HM := Lib.hid hm
  clear hm
  go_enter Tryz.func13, Tryz.ntmps13
  go_wp2
  go_loop [5, 6] (fun n_ i_ => ∃ (n : Int) (i : Nat), n_ = .int .i64 n ∧ i_ = .int .i64 i ∧ i ≤ s.size ∧ -(i : Int) ≤ n ∧ n ≤ i ∧ Hid (m = mR n i s.data.toList)) (fun _ i_ => s.size - (intOf i_).toNat)
  case atStart => exact ⟨0, a, rfl, rfl, ha, by omega, by omega, HM⟩
  case round =>
    obtain ⟨n, i, rfl, rfl, hi, hn1, hn2, hrel⟩ := hrel
    by_cases hlt : i < s.size
    · obtain ⟨c, hc⟩ : ∃ c, c = s[i] := ⟨_, rfl⟩
      have hcl : s.data.toList[i]'hlt = c := by rw [hc]; rfl
      obtain ⟨n2, hn⟩ : ∃ n2, n2 = stp2 n c := ⟨_, rfl⟩
      have HS : Hid (n2 ≠ 0 → m = mR n2 (i + 1) s.data.toList) := Lib.hid (fun h => by rw [hrel.out, mR_step hlt (by rw [hcl, ← hn]; exact h), hcl, ← hn])
      have HH : Hid (n2 = 0 → m = i) := Lib.hid (fun h => by rw [hrel.out, mR_hit hlt (by rw [hcl, ← hn]; exact h)])
      clear hrel hcl
      have hcase : ((c.toNat : Int) == 40) = true ∧ ((c.toNat : Int) == 41) = false ∧ n2 = n + 1 ∨ ((c.toNat : Int) == 40) = false ∧ ((c.toNat : Int) == 41) = true ∧ n2 = n - 1 ∨ ((c.toNat : Int) == 40) = false ∧ ((c.toNat : Int) == 41) = false ∧ n2 = n := by
        unfold stp2 at hn
        by_cases h1 : c.toNat = 40
        · left; rw [if_pos h1] at hn; exact ⟨by rw [h1]; rfl, by rw [h1]; rfl, hn⟩
        · rw [if_neg h1] at hn
          by_cases h2 : c.toNat = 41
          · right; left; rw [if_pos h2] at hn; exact ⟨by rw [h2]; rfl, by rw [h2]; rfl, hn⟩
          · right; right; rw [if_neg h2] at hn; exact ⟨by rw [beq_eq_false_iff_ne]; omega, by rw [beq_eq_false_iff_ne]; omega, hn⟩
      rw [hc] at hcase
      clear hn hc
      rcases hcase with ⟨c1, c2, rfl⟩ | ⟨c1, c2, rfl⟩ | ⟨c1, c2, rfl⟩
      · by_cases hz : n + 1 = 0
        · have hz' : ((n + 1 : Int) == 0) = true := by rw [beq_iff_eq]; exact hz
          have hmi := HH.out hz
          have HMI := Lib.hid hmi
          clear hz hmi HS HH
          go_wp2
          go_ret
          exact ⟨by rw [HMI.out]; rfl, rfl⟩
        · have hz' : ((n + 1 : Int) == 0) = false := by rw [beq_eq_false_iff_ne]; exact hz
          have HMS := Lib.hid (HS.out hz)
          clear hz HS HH
          go_wp2
          go_round
          case rel => exact ⟨n + 1, i + 1, by go_num, by go_num, by omega, by omega, by omega, HMS⟩
          case measure => simp [intOf]; omega
      · by_cases hz : n - 1 = 0
        · have hz' : ((n - 1 : Int) == 0) = true := by rw [beq_iff_eq]; exact hz
          have hmi := HH.out hz
          have HMI := Lib.hid hmi
          clear hz hmi HS HH
          go_wp2
          go_ret
          exact ⟨by rw [HMI.out]; rfl, rfl⟩
        · have hz' : ((n - 1 : Int) == 0) = false := by rw [beq_eq_false_iff_ne]; exact hz
          have HMS := Lib.hid (HS.out hz)
          clear hz HS HH
          go_wp2
          go_round
          case rel => exact ⟨n - 1, i + 1, by go_num, by go_num, by omega, by omega, by omega, HMS⟩
          case measure => simp [intOf]; omega
      · by_cases hz : n2 = 0
        · have hz' : ((n2 : Int) == 0) = true := by rw [beq_iff_eq]; exact hz
          have hmi := HH.out hz
          have HMI := Lib.hid hmi
          clear hz hmi HS HH
          go_wp2
          go_ret
          exact ⟨by rw [HMI.out]; rfl, rfl⟩
        · have hz' : ((n2 : Int) == 0) = false := by rw [beq_eq_false_iff_ne]; exact hz
          have HMS := Lib.hid (HS.out hz)
          clear hz HS HH
          go_wp2
          go_round
          case rel => exact ⟨n2, i + 1, by go_num, by go_num, by omega, by omega, by omega, HMS⟩
          case measure => simp [intOf]; omega
    · have HMI : Hid (m = -1) := Lib.hid (by rw [hrel.out]; exact mR_end (by show s.size ≤ i; omega))
      clear hrel
      go_wp2
      go_ret
      exact ⟨by rw [HMI.out]; rfl, rfl⟩
/-! ### the parenthesis that closes another -/
theorem mt_none : ∀ (r : Bytes) (n : Int), 1 ≤ n → mt n r = none → 1 ≤ n + (Rd.ct r : Int) - (cs r : Int)
  | [], n, h, _ => by show 1 ≤ n + ((0 : Nat) : Int) - ((0 : Nat) : Int); omega
  | c :: r, n, h, e => by
    unfold mt at e
    by_cases h0 : stp2 n c = 0
    · rw [if_pos h0] at e; cases e
    · rw [if_neg h0] at e
      have e' : mt (stp2 n c) r = none := by simpa using e
      have h1 : 1 ≤ stp2 n c := by unfold stp2 at h0 ⊢; split <;> (try split) <;> simp_all <;> omega
      have ih := mt_none r (stp2 n c) h1 e'
      have ec : Rd.ct (c :: r) = Rd.ct r + if c.toNat = 40 then 1 else 0 := by
        show (List.filter _ (c :: r)).length = _
        rw [List.filter_cons]
        by_cases hc : c.toNat = 40
        · rw [if_pos hc, if_pos (by rw [beq_iff_eq]; exact (eq_nat c 40 (by decide)).2 hc)]; rfl
        · rw [if_neg hc, if_neg (by rw [beq_iff_eq]; exact fun e => hc ((eq_nat c 40 (by decide)).1 e))]; rfl
      have es : cs (c :: r) = cs r + if c.toNat = 41 then 1 else 0 := by
        show (List.filter _ (c :: r)).length = _
        rw [List.filter_cons]
        by_cases hc : c.toNat = 41
        · rw [if_pos hc, if_pos (by rw [beq_iff_eq]; exact (eq_nat c 41 (by decide)).2 hc)]; rfl
        · rw [if_neg hc, if_neg (by rw [beq_iff_eq]; exact fun e => hc ((eq_nat c 41 (by decide)).1 e))]; rfl
      rw [ec, es]
      unfold stp2 at ih
      by_cases hc : c.toNat = 40
      · rw [if_pos hc] at ih ⊢; rw [if_neg (by omega)]; omega
      · rw [if_neg hc] at ih ⊢
        by_cases hd : c.toNat = 41
        · rw [if_pos hd] at ih ⊢; omega
        · rw [if_neg hd] at ih ⊢; omega
theorem mt_shut : ∀ (r : Bytes) (n : Int) (k : Nat), 1 ≤ n → mt n r = some k → ∃ h : k < r.length, r[k].toNat = 41
  | [], n, k, _, e => by cases e
  | c :: r, n, k, h, e => by
    unfold mt at e
    by_cases h0 : stp2 n c = 0
    · rw [if_pos h0] at e
      cases e
      refine ⟨Nat.zero_lt_succ _, ?_⟩
      show c.toNat = 41
      unfold stp2 at h0
      by_cases hc : c.toNat = 40
      · rw [if_pos hc] at h0; omega
      · rw [if_neg hc] at h0
        by_cases hd : c.toNat = 41
        · exact hd
        · rw [if_neg hd] at h0; omega
    · rw [if_neg h0] at e
      obtain ⟨j, hj, rfl⟩ := Option.map_eq_some_iff.1 e
      have h1 : 1 ≤ stp2 n c := by unfold stp2 at h0 ⊢; split <;> (try split) <;> simp_all <;> omega
      obtain ⟨h2, h3⟩ := mt_shut r (stp2 n c) j h1 hj
      exact ⟨Nat.succ_lt_succ h2, h3⟩
/-- the pair of a parenthesis -/
theorem pair_of {l : Bytes} (hb : Bal l) {i : Nat} (hi : i < l.length) (h : l[i].toNat = 40) : ∃ k : Nat, mR 0 i l = (k : Int) ∧ i < k ∧ ∃ hk : k < l.length, l[k].toNat = 41 := by
  have hs : stp2 0 l[i] = 1 := by unfold stp2; rw [if_pos h]; rfl
  have e1 : mR 0 i l = mR 1 (i + 1) l := by rw [mR_step hi (by rw [hs]; decide), hs]
  cases hm : mt 1 (l.drop (i + 1)) with
  | none =>
    have h1 := mt_none _ 1 (by decide) hm
    have h2 := hb (l.take i) (l.drop i) (List.take_append_drop i l).symm
    rw [List.drop_eq_getElem_cons hi] at h2
    have h3 : Rd.ct (l[i] :: l.drop (i + 1)) = Rd.ct (l.drop (i + 1)) + 1 := by
      show (List.filter _ (l[i] :: l.drop (i + 1))).length = _
      rw [List.filter_cons, if_pos (by rw [beq_iff_eq]; exact (eq_nat _ 40 (by decide)).2 h)]; rfl
    have h4 : cs (l[i] :: l.drop (i + 1)) = cs (l.drop (i + 1)) := by
      show (List.filter _ (l[i] :: l.drop (i + 1))).length = _
      rw [List.filter_cons, if_neg (by rw [beq_iff_eq]; exact fun e => by have := (eq_nat _ 41 (by decide)).1 e; omega)]
    omega
  | some k =>
    obtain ⟨h1, h2⟩ := mt_shut _ 1 k (by decide) hm
    rw [List.length_drop] at h1
    refine ⟨i + 1 + k, ?_, by omega, by omega, ?_⟩
    · rw [e1]; unfold mR; rw [hm]
    · rw [List.getElem_drop] at h2; exact h2
/-- the text without the pair -/
def cutP (l : Bytes) (i k : Nat) : Bytes := l.take i ++ (l.drop (i + 1)).take (k - (i + 1)) ++ l.drop (k + 1)
theorem cut_ct {l : Bytes} {i k : Nat} (hi : i < l.length) (hik : i < k) (hk : k < l.length) (h : l[i].toNat = 40) (h2 : l[k].toNat = 41) : Rd.ct (cutP l i k) + 1 = Rd.ct l := by
  have e : l = l.take i ++ (l[i] :: ((l.drop (i + 1)).take (k - (i + 1)) ++ (l[k] :: l.drop (k + 1)))) := by
    have e2 : (l.drop (i + 1)) = (l.drop (i + 1)).take (k - (i + 1)) ++ (l[k] :: l.drop (k + 1)) := by
      conv => lhs; rw [← List.take_append_drop (k - (i + 1)) (l.drop (i + 1))]
      congr 1
      rw [List.drop_drop, show i + 1 + (k - (i + 1)) = k by omega, List.drop_eq_getElem_cons hk]
    rw [← e2, ← List.drop_eq_getElem_cons hi, List.take_append_drop]
  have h3 : Rd.ct [l[i]] = 1 := by
    show (List.filter _ [l[i]]).length = _
    rw [List.filter_cons, if_pos (by rw [beq_iff_eq]; exact (eq_nat _ 40 (by decide)).2 h)]; rfl
  have h4 : Rd.ct [l[k]] = 0 := by
    show (List.filter _ [l[k]]).length = _
    rw [List.filter_cons, if_neg (by rw [beq_iff_eq]; exact fun e => by have := (eq_nat _ 40 (by decide)).1 e; omega)]; rfl
  have e3 : Rd.ct l = Rd.ct (l.take i) + (Rd.ct [l[i]] + (Rd.ct ((l.drop (i + 1)).take (k - (i + 1))) + (Rd.ct [l[k]] + Rd.ct (l.drop (k + 1))))) := by
    rw [← ct_app, ← ct_app, ← ct_app, ← ct_app]
    exact congrArg Rd.ct e
  unfold cutP
  rw [ct_app, ct_app, e3, h3, h4]
  omega
theorem extract_drop (s : ByteArray) (k i : Nat) : (s.extract k i).data.toList = (s.data.toList.drop k).take (i - k) := by simp
theorem cut_data (s : ByteArray) (i k : Nat) : (s.extract 0 i ++ s.extract (i + 1) k ++ s.extract (k + 1) s.size).data.toList = cutP s.data.toList i k := by
  have e1 : (s.extract 0 i).data.toList = s.data.toList.take i := by rw [extract_drop, List.drop_zero, Nat.sub_zero]
  have e3 : (s.extract (k + 1) s.size).data.toList = s.data.toList.drop (k + 1) := by
    rw [extract_drop]; exact List.take_of_length_le (by rw [List.length_drop]; show s.size - (k + 1) ≤ s.size - (k + 1); exact Nat.le_refl _)
  unfold cutP
  rw [← e1, ← extract_drop, ← e3]
  simp
/-- another term, or none -/
theorem cut_parse {t : Tm} (h : okR t) {i k : Nat} (hi : i < (txtT t).length) (hik : i < k) (hk : k < (txtT t).length) (h1 : (txtT t)[i].toNat = 40) (h2 : (txtT t)[k].toNat = 41)
    {x : Tm} {p : Nat} (hp : ParseR (.term none) id (cutP (txtT t) i k) (some (.tm x)) p 0) : plainT x ≠ plainT t := by
  intro e
  have hx := parsed_T hp
  have h3 := parse_np hp
  have h4 := cut_ct hi hik hk h1 h2
  have h5 := (txt_np t h).1
  rw [plain_inj hx h e] at h3
  omega
theorem parseT_tm {s : Bytes} {x : PV} {p e : Nat} (h : ParseR (.term none) id s (some x) p e) : e = 0 ∧ ∃ t, x = .tm t := by
  have he : e = 0 := by
    cases e with
    | zero => rfl
    | succ e => have := parse_none h (Nat.succ_ne_zero e); cases this
  subst he
  obtain ⟨T, t, hx, hB, hr, ho⟩ := parse_okT h
  rcases Big.term hB rfl with h | ⟨t, h⟩
  · cases h
  · exact ⟨rfl, t, Option.some.inj h⟩
theorem parseT_zero {s : Bytes} {r : Option PV} {p : Nat} (h : ParseR (.term none) id s r p 0) : p = 0 := by
  unfold ParseR at h
  split at h
  · rename_i h0; exact absurd h.2.2.symm h0
  · obtain ⟨r0, s', hB, hv, hr⟩ := h
    unfold verd at hv
    split at hv
    · cases hv
    · split at hv
      · cases hv
      · split at hv
        · cases hv
        · exact congrArg Prod.fst hv
end Rd
end Go.Proofs.YtkjbfomokdjbnaaGreatDoor
