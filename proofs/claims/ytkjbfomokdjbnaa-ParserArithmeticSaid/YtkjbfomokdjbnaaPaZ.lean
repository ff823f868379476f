/-
  The parser: Term.
-/
import Derived.Test.YtkjbfomokdjbnaaPaX
namespace Go.Proofs.Ytkjbfomokdjbnaa
open Go.RowKit
set_option linter.unusedSimpArgs false
set_option linter.unusedVariables false
namespace Pa
open Lx Fm Dc
attribute [local go_sem] run_store fieldTok0 fieldTok2
set_option maxRecDepth 100000 in
set_option maxHeartbeats 4000000 in
theorem Term_walk (s : ByteArray) (r : Option PV) (p e : Nat) (hR : ParseR (.term none) id s.data.toList r p e) (hs : s.size ≤ 140737488351232) (w : World) :
    Calls Try.prog 15 #[.string s] w (ParsePost r p e w) := by
  have hmm := @run_makeMap Try.prog
  unfold ParseR at hR
  have HL := Lib.hid (lex_any s w hs)
  rcases hlx : lex s.data.toList with ⟨toks, q, er⟩
  rw [hlx] at hR
  by_cases he : er = 0
  case neg =>
    rw [if_pos he] at hR
    obtain ⟨rfl, rfl, rfl⟩ := hR
    have hene : ((e : Int) == 0) = false := by rw [beq_eq_false_iff_ne]; omega
    have HX := Lib.hid hlx
    clear hlx he
    go_enter Try.func15, Try.ntmps15
    go_wp2_with fail
    refine HL.out.mono ?_
    rintro e w' ⟨v, toks', p', er', rfl, hlex, hown, hbel⟩
    rw [HX.out] at hlex
    injection hlex with g1 g2
    injection g2 with g2 g3
    subst g1 g2 g3
    have hov : v.oneCell' = true := by obtain ⟨A, c, rfl⟩ := (Sl.of_own hown).form; rfl
    have HB := Lib.hid hbel
    clear hown hbel
    go_wp2
    go_ret3
    exact ⟨rfl, HB.out⟩
  case pos =>
    subst he
    rw [if_neg (by simp)] at hR
    obtain ⟨r0, s', hB, hv, hr⟩ := hR
    have htok := tokOk_lex s.data.toList
    have hpos := lex_pos s.data.toList (by rw [hlx])
    rw [hlx] at htok hpos
    dsimp only at htok hpos
    have HX := Lib.hid hlx
    have HV := Lib.hid hv
    have HR := Lib.hid hr
    have HBg := Lib.hid hB
    have HTO := Lib.hid htok
    have HPO := Lib.hid hpos
    clear hlx hv hr hB htok hpos
    go_enter Try.func15, Try.ntmps15
    go_wp2_with fail
    refine HL.out.mono ?_
    rintro en w1 ⟨v, toks', p', er', rfl, hlex, hown, hbel⟩
    rw [HX.out] at hlex
    injection hlex with g1 g2
    injection g2 with g2 g3
    subst g1 g2 g3
    have hS := Sl.of_own hown
    obtain ⟨A, c, rfl⟩ := hS.form
    have HB := Lib.hid hbel
    have HS := Lib.hid hS
    clear hown hbel hS
    obtain ⟨W, hWW⟩ : ∃ W, (w1.alloc (.map #[] 0)).alloc (.cells #[.slice A toks.length c, .int .i64 0, .int .i64 0, .int .i64 0, .map (some w1.heap.size), .bool false, .int .i64 0] tPa) = W := ⟨_, rfl⟩
    have hbW : Below w1.heap.size w1 W := by
      rw [← hWW]
      exact ((Below.refl _ w1).alloc (Nat.le_refl _) _).alloc (by simp) _
    have hP : PAt w1.heap.size (w1.heap.size + 1) w1.heap.size toks A toks.length c s0 W :=
      { ne := by omega, bp := Nat.le_succ _, bm := Nat.le_refl _, hn := rfl, len := Nat.le_trans HPO.out.1.1 HPO.out.1.2, next := Nat.zero_le _, depth := Nat.zero_le _, rels := Nat.zero_le _, nms := Nat.zero_le _, small := HPO.out.2
        box := by
          rw [← hWW]
          have h := heap_alloc_new (w1.alloc (.map #[] 0)) (.cells #[.slice A toks.length c, .int .i64 0, .int .i64 0, .int .i64 0, .map (some w1.heap.size), .bool false, .int .i64 0] tPa)
          have e : (w1.alloc (.map #[] 0)).heap.size = w1.heap.size + 1 := by simp
          rw [e] at h
          exact h
        map := by
          refine (MapB.made w1).keep ?_
          rw [← hWW, Below.heap_alloc _ _ _ (by simp)]
        toks := HS.out.keep (fun p hp => hbW.cell hp) }
    have hFF := (call_any ⟨w1.heap.size, w1.heap.size + 1, w1.heap.size, toks, A, toks.length, c⟩ HTO.out (.term none) s0 r0 s' HBg.out ⟨Nat.le_refl _, Nat.le_refl _, Nat.le_refl _⟩ (notEncl (by simp)) W hP .nilIface rfl)
    obtain ⟨X, hX⟩ : ∃ X, X = id r0 := ⟨_, rfl⟩
    rw [show r0 = X from hX.symm] at hFF
    rw [← hX] at HV HR
    have HF := Lib.hid hFF
    clear hFF hX
    have HB1 := Lib.hid (HB.out.trans (hbW.mono HB.out.size))
    have HPT := Lib.hid (show w1.heap.size + 1 < W.heap.size from hP.lt)
    clear hP hbW
    have HBO := Lib.hid (fun w2 (h : Owns W w2 (Fp (w1.heap.size + 1) w1.heap.size) (Fp (w1.heap.size + 1) w1.heap.size)) => HB1.out.trans (below_owns h (B := w.heap.size) (fun k hk => by have h5 := HB.out.size; rcases (show k = w1.heap.size + 1 ∨ k = w1.heap.size from hk) with e | e <;> omega) (HB1.out.size)))
    go_wp2_with fail
    refine HF.out.mono ?_
    intro en w2 hF
    clear hWW
    cases X with
    | none =>
      obtain ⟨v2, rfl, hov2, hP2, hO2⟩ := hF
      have hVd := verdict_any _ _ _ _ _ _ _ s' false s.size w2 hP2
      have hv := HV.out
      have he6 : e = 6 := by
        have h7 : e = (verd toks false s.size s').2 := by have := congrArg Prod.snd hv; exact this
        rw [h7]; unfold verd; split <;> rfl
      rw [show verd toks false s.size s' = (p, e) from hv.symm] at hVd
      obtain rfl : r = none := by have h8 := HR.out; rw [if_neg (by rw [he6]; decide)] at h8; exact h8
      subst he6
      have HVd := Lib.hid hVd
      have HB3 := Lib.hid (HBO.out w2 hO2)
      clear hP2 hO2 hv hVd
      go_wp2_with fail
      refine HVd.out.mono ?_
      rintro en w3 ⟨rfl, hb3⟩
      have HE := Lib.hid (show ParsePost none p 6 w (.returned (.tuple #[.nilIface, .int .i64 p, .int .i64 ((6 : Nat) : Int)])) w3 from ⟨rfl, HB3.out.trans (hb3.mono HB3.out.size)⟩)
      clear hb3
      go_wp2
      go_ret3
      exact HE.out
    | some x =>
      obtain ⟨u, z, rfl, hvx, hP2, hO2⟩ := hF
      have hVd := verdict_any _ _ _ _ _ _ _ s' true s.size w2 hP2
      have hv := HV.out
      rw [show verd toks true s.size s' = (p, e) from hv.symm] at hVd
      have HVd := Lib.hid hVd
      have HB3 := Lib.hid (HBO.out w2 hO2)
      have HVX := Lib.hid hvx
      by_cases he : e = 0
      case pos =>
        have hp0 : p = 0 := by
          have h7 : e = (verd toks true s.size s').2 := congrArg Prod.snd hv
          have h8 : p = (verd toks true s.size s').1 := congrArg Prod.fst hv
          rw [h8]; rw [he] at h7
          unfold verd at h7 ⊢
          split at h7
          · cases h7
          · split at h7
            · cases h7
            · split at h7
              · cases h7
              · rename_i a b c; rw [if_neg a, if_neg b, if_neg c]
        obtain rfl : r = some x := by have h8 := HR.out; rw [if_pos he] at h8; exact h8
        subst he hp0
        clear hP2 hO2 hv hVd hvx
        go_wp2_with fail
        refine HVd.out.mono ?_
        rintro en w3 ⟨rfl, hb3⟩
        have HE := Lib.hid (show ParsePost (some x) 0 0 w (.returned (.tuple #[.iface u z, .int .i64 0, .int .i64 0])) w3 from ⟨⟨u, z, rfl, (HVX.out.all).below2 hb3⟩, HB3.out.trans (hb3.mono HB3.out.size)⟩)
        clear hb3
        go_wp2
        go_ret3
        exact HE.out
      case neg =>
        have hene : ((e : Int) == 0) = false := by rw [beq_eq_false_iff_ne]; omega
        obtain rfl : r = none := by have h8 := HR.out; rw [if_neg he] at h8; exact h8
        clear hP2 hO2 hv hVd hvx he
        go_wp2_with fail
        refine HVd.out.mono ?_
        rintro en w3 ⟨rfl, hb3⟩
        have HE := Lib.hid (show ParsePost none p e w (.returned (.tuple #[.nilIface, .int .i64 p, .int .i64 e])) w3 from ⟨rfl, HB3.out.trans (hb3.mono HB3.out.size)⟩)
        clear hb3
        go_wp2
        go_ret3
        exact HE.out
end Pa
end Go.Proofs.Ytkjbfomokdjbnaa
