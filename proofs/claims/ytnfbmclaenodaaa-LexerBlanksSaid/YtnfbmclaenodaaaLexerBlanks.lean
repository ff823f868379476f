/-
  LexerBlanks: for every input the law returns true: a blank more after any token, or before all, changes only offsets. No condition.
-/
import Derived.Test.YtnfbmclaenodaaaLxV
import Derived.Test.YtnfbmclaenodaaaReg
import Derived.Test.YtnfbmclaenodaaaRows
import Derived.ProofKit
import Derived.OpenShut
import Derived.ShutString
import Derived.Deep.DeepCutAuto
namespace Go.Proofs.Ytnfbmclaenodaaa.lexerBlanks
open Go.ChangeShapes Go.WideShapes Go.ChangeAt Go.RowKit Go.Proofs.Ytnfbmclaenodaaa Go.Proofs.Ytnfbmclaenodaaa.Lx
open Go.ChangeMaps (open_string shut_string)
set_option linter.unusedVariables false
set_option linter.unusedSimpArgs false

theorem bl_four (b : UInt8) (h : bl b = true) : b = 9 ∨ b = 10 ∨ b = 13 ∨ b = 32 := by
  unfold bl at h
  simp only [Bool.or_eq_true, beq_iff_eq] at h
  rcases h with ((h | h) | h) | h
  · exact .inl (UInt8.toNat_inj.1 h)
  · exact .inr (.inl (UInt8.toNat_inj.1 h))
  · exact .inr (.inr (.inl (UInt8.toNat_inj.1 h)))
  · exact .inr (.inr (.inr (UInt8.toNat_inj.1 h)))

theorem shift_len (L : List Tok) (n : Nat) : (shiftFrom L n).length = L.length := by
  unfold shiftFrom; rw [List.length_append, List.length_map, List.length_take, List.length_drop]; omega
theorem shift_get (L : List Tok) (n i : Nat) (hi : i < L.length) (hi' : i < (shiftFrom L n).length) : (shiftFrom L n)[i] = if i < n then L[i] else mv 1 L[i] := by
  have h2 : (shiftFrom L n)[i]? = some (if i < n then L[i] else mv 1 L[i]) := by
    unfold shiftFrom
    by_cases h : i < n
    · rw [if_pos h, List.getElem?_append_left (by rw [List.length_take]; omega), List.getElem?_take, if_pos h, List.getElem?_eq_getElem hi]
    · rw [if_neg h, List.getElem?_append_right (by rw [List.length_take]; omega), List.getElem?_map, List.getElem?_drop, List.length_take]
      have e : n + (i - min n L.length) = i := by omega
      rw [e, List.getElem?_eq_getElem hi]; rfl
  rw [List.getElem?_eq_getElem hi'] at h2
  exact Option.some.inj h2
theorem shift_same (L : List Tok) (n : Nat) : sameB L (shiftFrom L n) false = true := by
  refine sameB_yes _ _ _ (shift_len L n).symm (fun i h1 h2 => ?_)
  rw [shift_get L n i h1 h2]
  unfold tokEq
  split <;> simp [mv]
theorem ins_data (s : ByteArray) (P : Nat) (x : UInt8) : (s.extract 0 P ++ ⟨#[x]⟩ ++ s.extract P s.size).data.toList = ins P x s.data.toList := by
  have e1 : (s.extract 0 P).data.toList = s.data.toList.take P := by rw [extract_drop, List.drop_zero, Nat.sub_zero]
  have e2 : (s.extract P s.size).data.toList = s.data.toList.drop P := by
    rw [extract_drop]; exact List.take_of_length_le (by rw [List.length_drop, size_len]; omega)
  have e3 : ∀ a b : ByteArray, (a ++ b).data.toList = a.data.toList ++ b.data.toList := fun a b => by simp
  rw [e3, e3, e1, e2]
  simp [ins]
set_option maxHeartbeats 4000000 in
set_option maxRecDepth 100000 in
theorem small (s : ByteArray) (q r : Nat) (hs : s.size ≤ 3000) (hq : q ≤ 255) (hr : r ≤ 255) (h0 : (lex s.data.toList).2.2 = 0) (w : World) :
    Calls Try.prog 5 #[.string s, .int .u8 (q : Int), .int .u8 (r : Int)] w fun e w' => e = .returned (.bool true) ∧ Below w.heap.size w w' := by
  obtain ⟨ls, ps, es, hls⟩ : ∃ la pa ea, lex s.data.toList = (la, pa, ea) := ⟨_, _, _, rfl⟩
  obtain ⟨ns, hns⟩ : ∃ n, n = ls.length := ⟨_, rfl⟩
  have hlen := lex_length s.data.toList
  have hmem := fun t ht => lex_mem s.data.toList t ht
  rw [hls, size_len] at hlen
  rw [hls, size_len] at hmem
  dsimp only at hlen hmem
  rw [← hns] at hlen
  have HL := Lib.hid hls
  have HN := Lib.hid hns
  have HM := Lib.hid hmem
  rw [hls] at h0
  have he : ((es : Int) != 0) = false := by simp; omega
  have HE := Lib.hid h0
  clear hls hns h0 hmem
  go_enter Try.func5, Try.ntmps5
  go_wp2_with fail
  refine (awake_any _).mono ?_
  rintro e w1 ⟨rfl, hb1⟩
  go_wp2_with fail
  refine (lex_is s (by omega) ls ps es HL.out ns HN.out _).mono ?_
  rintro e w2 ⟨A, ca, rfl, hSa, hb2⟩
  have HS := Lib.hid hSa
  clear hSa
  have three : ¬ 0 < ns ∨ (0 < ns ∧ q = 0) ∨ (0 < ns ∧ 0 < q) := by omega
  rcases three with h1 | ⟨h1, h2⟩ | ⟨h1, h2⟩
  · have hP : Hid (0 = endAt 0 ls 0) := rfl
    go_upto_region 11 with (fail)
    have hbb : Below w2.heap.size w2 w2 := Below.refl _ _
    go_cut [10, 11, 12] (fun a n c wx => ∃ (P N : Nat) (x : UInt8), a = .int .i64 P ∧ n = .int .i64 N ∧ c = .int .u8 (x.toNat : Int) ∧ bl x = true ∧ N ≤ ns ∧ P ≤ s.size ∧ Hid (P = endAt 0 ls N) ∧ Below w2.heap.size w2 wx)
    case first =>
      have hr4 : (r : Int) % 4 = 0 ∨ (r : Int) % 4 = 1 ∨ (r : Int) % 4 = 2 ∨ (r : Int) % 4 = 3 := by omega
      rcases hr4 with h | h | h | h
      · go_wp2_with fail
        go_meet
        exact ⟨0, 0, 9, by go_num, by go_num, rfl, rfl, by omega, by omega, hP, hbb.alloc hbb.size _⟩
      · go_wp2_with fail
        go_meet
        exact ⟨0, 0, 10, by go_num, by go_num, rfl, rfl, by omega, by omega, hP, hbb.alloc hbb.size _⟩
      · go_wp2_with fail
        go_meet
        exact ⟨0, 0, 13, by go_num, by go_num, rfl, rfl, by omega, by omega, hP, hbb.alloc hbb.size _⟩
      · go_wp2_with fail
        go_meet
        exact ⟨0, 0, 32, by go_num, by go_num, rfl, rfl, by omega, by omega, hP, hbb.alloc hbb.size _⟩
    case rest =>
      obtain ⟨P, N, x, rfl, rfl, rfl, hx, hN, hPs, hPe, hbw⟩ := hcut
      have hdat := ins_data s P x
      obtain ⟨t, ht⟩ : ∃ t, t = s.extract 0 P ++ ⟨#[x]⟩ ++ s.extract P s.size := ⟨_, rfl⟩
      have htl : lex t.data.toList = (shiftFrom ls N, 0, 0) := by
        have h1 := lex_ins x hx s.data.toList (by rw [size_len]; omega) (by rw [HL.out]; exact HE.out) N (by rw [HL.out, ← HN.out]; exact hN) (by rw [HL.out, size_len, ← hPe.out]; exact hPs)
        rw [HL.out] at h1
        rw [ht, hdat, hPe.out]
        exact h1
      have e1sz : (s.extract 0 P).size = P := by rw [ByteArray.size_extract]; omega
      have e2sz : (s.extract P s.size).size = s.size - P := by rw [ByteArray.size_extract]; omega
      have e3sz : (s.extract 0 P ++ ⟨#[x]⟩).size = P + 1 := by rw [ByteArray.size_append, e1sz]; rfl
      have htz : t.size ≤ 140737488351232 := by rw [ht, ByteArray.size_append, e3sz, e2sz]; omega
      have cv : Utf8.encode (IntKind.i32.wrap (x.toNat : Int)) = ⟨#[x]⟩ := by rcases bl_four x hx with rfl | rfl | rfl | rfl <;> kernel_rfl
      have hb1' : ¬ 9223372036854775807 < P + 1 := by omega
      have hb2' : ¬ 9223372036854775807 < P + 1 + (s.size - P) := by omega
      have hxb : (x.toNat : Int) ≤ 32 := by rcases bl_four x hx with rfl | rfl | rfl | rfl <;> decide
      have HT := Lib.hid htl
      have hPi : (P : Int) ≤ (s.size : Int) := by omega
      have Ht := Lib.hid ht
      have Hz := Lib.hid htz
      clear hdat ht htl e1sz e2sz e3sz hx htz
      go_wp2_with fail
      refine wp_region_segs [11] (by kernel_rfl) (by kernel_rfl) ?_
      simp only [wpSegs, List.take_succ_cons, List.take_zero, List.drop_succ_cons, List.drop_zero, Nat.sub_zero, Nat.reduceSub, Nat.reduceAdd]
      repeat still_step
      refine wpStill_nil ?_
      go_wp2_with fail
      clear cv hb1' hb2'
      rw [← Ht.out]
      refine (lex_is t Hz.out (shiftFrom ls N) 0 0 HT.out ns (by rw [shift_len]; exact HN.out) _).mono ?_
      rintro e w3 ⟨A3, c3, rfl, hS3, hb3⟩
      have hS2 : Sl w3 w2.heap.size 3 (.slice _ ns ca) ns (tokCells ls) := ((HS.out.below hbw).drew).belowM hb3 hbw.size
      have hbel : Below w.heap.size w w3 := by
        have g1 := hb1.size; have g2 := hb2.size; have g3 := hbw.size
        exact (((hb1.trans (hb2.mono g1)).trans (hbw.mono (by omega))).drew).trans (hb3.mono (by show _ ≤ wc.heap.size; omega))
      have hSB := rsame_any ls (shiftFrom ls N) _ _ w3.heap.size false w3 (by rw [← HN.out]; exact hS2.more (by have := hbw.size; have g3 : wc.heap.size ≤ w3.heap.size := hb3.size; omega)) (by rw [shift_len, ← HN.out]; exact hS3) (by rw [← HN.out]; omega) (by rw [shift_len, ← HN.out]; omega)
      rw [shift_same] at hSB
      have HSB := Lib.hid hSB
      have HS2 := Lib.hid hS2
      have HS3 := Lib.hid hS3
      clear hS2 hS3 hSB
      go_wp2_with fail
      repeat still_step
      refine wpStill_nil ?_
      go_wp2_with fail
      refine HSB.out.mono ?_
      rintro e w4 ⟨rfl, k4, rfl⟩
      go_wp2_with fail
      go_loopw [92] (fun j wr => ∃ (i : Nat), i ≤ ns ∧ j = .int .i64 i ∧ (∃ k, wr = w3.drewN k)) (fun j _ => ns - (intOf j).toNat)
      case atStart => exact ⟨0, Nat.zero_le _, rfl, k4, rfl⟩
      case round =>
        obtain ⟨i, hi, rfl, k, rfl⟩ := hrel
        obtain ⟨wo, hwo⟩ : ∃ wo, wo = w3.drewN k := ⟨_, rfl⟩
        rw [← hwo]
        have HW := Lib.hid hwo
        have hcell : ∀ q, wo.cell? q = w3.cell? q := by intro q; rw [hwo]; rfl
        have HQ := Lib.hid hcell
        clear hwo hcell
        by_cases hlt : i < ns
        · exact absurd hlt (by omega)
        · go_wp2
          go_ret
          exact ⟨rfl, by rw [HW.out]; exact below_drewN hbel k⟩
  · have h2' : ¬ 0 < q := by omega
    clear h2
    have hP : Hid (0 = endAt 0 ls 0) := rfl
    go_upto_region 11 with (fail)
    have hbb : Below w2.heap.size w2 w2 := Below.refl _ _
    go_cut [10, 11, 12] (fun a n c wx => ∃ (P N : Nat) (x : UInt8), a = .int .i64 P ∧ n = .int .i64 N ∧ c = .int .u8 (x.toNat : Int) ∧ bl x = true ∧ N ≤ ns ∧ P ≤ s.size ∧ Hid (P = endAt 0 ls N) ∧ Below w2.heap.size w2 wx)
    case first =>
      have hr4 : (r : Int) % 4 = 0 ∨ (r : Int) % 4 = 1 ∨ (r : Int) % 4 = 2 ∨ (r : Int) % 4 = 3 := by omega
      rcases hr4 with h | h | h | h
      · go_wp2_with fail
        go_meet
        exact ⟨0, 0, 9, by go_num, by go_num, rfl, rfl, by omega, by omega, hP, hbb.alloc hbb.size _⟩
      · go_wp2_with fail
        go_meet
        exact ⟨0, 0, 10, by go_num, by go_num, rfl, rfl, by omega, by omega, hP, hbb.alloc hbb.size _⟩
      · go_wp2_with fail
        go_meet
        exact ⟨0, 0, 13, by go_num, by go_num, rfl, rfl, by omega, by omega, hP, hbb.alloc hbb.size _⟩
      · go_wp2_with fail
        go_meet
        exact ⟨0, 0, 32, by go_num, by go_num, rfl, rfl, by omega, by omega, hP, hbb.alloc hbb.size _⟩
    case rest =>
      obtain ⟨P, N, x, rfl, rfl, rfl, hx, hN, hPs, hPe, hbw⟩ := hcut
      have hdat := ins_data s P x
      obtain ⟨t, ht⟩ : ∃ t, t = s.extract 0 P ++ ⟨#[x]⟩ ++ s.extract P s.size := ⟨_, rfl⟩
      have htl : lex t.data.toList = (shiftFrom ls N, 0, 0) := by
        have h1 := lex_ins x hx s.data.toList (by rw [size_len]; omega) (by rw [HL.out]; exact HE.out) N (by rw [HL.out, ← HN.out]; exact hN) (by rw [HL.out, size_len, ← hPe.out]; exact hPs)
        rw [HL.out] at h1
        rw [ht, hdat, hPe.out]
        exact h1
      have e1sz : (s.extract 0 P).size = P := by rw [ByteArray.size_extract]; omega
      have e2sz : (s.extract P s.size).size = s.size - P := by rw [ByteArray.size_extract]; omega
      have e3sz : (s.extract 0 P ++ ⟨#[x]⟩).size = P + 1 := by rw [ByteArray.size_append, e1sz]; rfl
      have htz : t.size ≤ 140737488351232 := by rw [ht, ByteArray.size_append, e3sz, e2sz]; omega
      have cv : Utf8.encode (IntKind.i32.wrap (x.toNat : Int)) = ⟨#[x]⟩ := by rcases bl_four x hx with rfl | rfl | rfl | rfl <;> kernel_rfl
      have hb1' : ¬ 9223372036854775807 < P + 1 := by omega
      have hb2' : ¬ 9223372036854775807 < P + 1 + (s.size - P) := by omega
      have hxb : (x.toNat : Int) ≤ 32 := by rcases bl_four x hx with rfl | rfl | rfl | rfl <;> decide
      have HT := Lib.hid htl
      have hPi : (P : Int) ≤ (s.size : Int) := by omega
      have Ht := Lib.hid ht
      have Hz := Lib.hid htz
      clear hdat ht htl e1sz e2sz e3sz hx htz
      go_wp2_with fail
      refine wp_region_segs [11] (by kernel_rfl) (by kernel_rfl) ?_
      simp only [wpSegs, List.take_succ_cons, List.take_zero, List.drop_succ_cons, List.drop_zero, Nat.sub_zero, Nat.reduceSub, Nat.reduceAdd]
      repeat still_step
      refine wpStill_nil ?_
      go_wp2_with fail
      clear cv hb1' hb2'
      rw [← Ht.out]
      refine (lex_is t Hz.out (shiftFrom ls N) 0 0 HT.out ns (by rw [shift_len]; exact HN.out) _).mono ?_
      rintro e w3 ⟨A3, c3, rfl, hS3, hb3⟩
      have hS2 : Sl w3 w2.heap.size 3 (.slice _ ns ca) ns (tokCells ls) := ((HS.out.below hbw).drew).belowM hb3 hbw.size
      have hbel : Below w.heap.size w w3 := by
        have g1 := hb1.size; have g2 := hb2.size; have g3 := hbw.size
        exact (((hb1.trans (hb2.mono g1)).trans (hbw.mono (by omega))).drew).trans (hb3.mono (by show _ ≤ wc.heap.size; omega))
      have hSB := rsame_any ls (shiftFrom ls N) _ _ w3.heap.size false w3 (by rw [← HN.out]; exact hS2.more (by have := hbw.size; have g3 : wc.heap.size ≤ w3.heap.size := hb3.size; omega)) (by rw [shift_len, ← HN.out]; exact hS3) (by rw [← HN.out]; omega) (by rw [shift_len, ← HN.out]; omega)
      rw [shift_same] at hSB
      have HSB := Lib.hid hSB
      have HS2 := Lib.hid hS2
      have HS3 := Lib.hid hS3
      clear hS2 hS3 hSB
      go_wp2_with fail
      repeat still_step
      refine wpStill_nil ?_
      go_wp2_with fail
      refine HSB.out.mono ?_
      rintro e w4 ⟨rfl, k4, rfl⟩
      go_wp2_with fail
      go_loopw [92] (fun j wr => ∃ (i : Nat), i ≤ ns ∧ j = .int .i64 i ∧ (∃ k, wr = w3.drewN k)) (fun j _ => ns - (intOf j).toNat)
      case atStart => exact ⟨0, Nat.zero_le _, rfl, k4, rfl⟩
      case round =>
        obtain ⟨i, hi, rfl, k, rfl⟩ := hrel
        obtain ⟨wo, hwo⟩ : ∃ wo, wo = w3.drewN k := ⟨_, rfl⟩
        rw [← hwo]
        have HW := Lib.hid hwo
        have hcell : ∀ q, wo.cell? q = w3.cell? q := by intro q; rw [hwo]; rfl
        have HQ := Lib.hid hcell
        clear hwo hcell
        by_cases hlt : i < ns
        · have hil : i < ls.length := by rw [← HN.out]; exact hlt
          have his : i < (shiftFrom ls N).length := by rw [shift_len]; exact hil
          obtain ⟨b2, o2, rfl, c0, c1, c2⟩ := HS3.out.tok (by rw [shift_len]; exact HN.out) i hlt
          rcases HS2.out.tok HN.out i hlt with ⟨b1, o1, hA1, d0, d1, d2⟩
          first | subst hA1 | (injection hA1 with hA1; injection hA1 with hA1 hA2; subst hA1; subst hA2)
          rw [← HQ.out] at c0 c1 c2 d0 d1 d2
          have hgi := shift_get ls N i hil his
          have hxm2 := HM.out ls[i] (List.getElem_mem _)
          obtain ⟨y, hy⟩ : ∃ y, y = ls[i] := ⟨_, rfl⟩
          rw [← hy] at hgi hxm2 d2
          rw [hgi] at c2
          have g4 : (y.pos : Int) ≤ 3000 := by omega
          by_cases hiN : i < N
          · rw [if_pos hiN] at c2
            have g1 : decide ((N : Int) ≤ (i : Int)) = false := by simp; omega
            have g2 : decide (N ≤ i) = false := by simp; omega
            have z1 : IntKind.i64.wrap ((y.pos : Int) + 0) = (y.pos : Int) := by rw [Int.add_zero]; exact IntWalk.i64_in _ (by omega)
            have z2 : ((y.pos : Int) != (y.pos : Int)) = false := by simp
            have z3 : (y.pos : Int) + 0 = (y.pos : Int) := Int.add_zero _
            clear hgi hy c0 c1 d0 d1 hxm2
            go_wp2_with fail
            go_quiet (fail)
            clear z1
            go_wp2
            go_roundw
            case rel => exact ⟨i + 1, by omega, by go_num, by rw [HW.out]; exact ⟨_, by first | rfl | (simp only [World.drewN_drewN]; rfl)⟩⟩
            case measure => simp [intOf]; omega
          · rw [if_neg hiN] at c2
            have g1 : decide ((N : Int) ≤ (i : Int)) = true := by simp; omega
            have g2 : decide (N ≤ i) = true := by simp; omega
            have z1 : IntKind.i64.wrap ((y.pos : Int) + 1) = (y.pos : Int) + 1 := IntWalk.i64_in _ (by omega)
            have c2' : wo.cell? ⟨b2, o2 + i * 3 + 2, none⟩ = some (.int .i64 ((y.pos : Int) + 1)) := c2
            have z2 : ((y.pos : Int) + 1 != (y.pos : Int) + 1) = false := by simp
            clear hgi hy c0 c1 d0 d1 hxm2 c2
            go_wp2_with fail
            go_quiet (fail)
            clear z1
            go_wp2
            go_roundw
            case rel => exact ⟨i + 1, by omega, by go_num, by rw [HW.out]; exact ⟨_, by first | rfl | (simp only [World.drewN_drewN]; rfl)⟩⟩
            case measure => simp [intOf]; omega
        · go_wp2
          go_ret
          exact ⟨rfl, by rw [HW.out]; exact below_drewN hbel k⟩
  · obtain ⟨m, hm⟩ : ∃ m : Nat, m = q % ns := ⟨_, rfl⟩
    have hmn : m < ns := by rw [hm]; exact Nat.mod_lt _ h1
    have hmi : (q : Int) % (ns : Int) = (m : Int) := by rw [hm]; omega
    have hml : m < ls.length := by rw [← HN.out]; exact hmn
    obtain ⟨b, o, rfl, c0, c1, c2⟩ := HS.out.tok HN.out m hmn
    obtain ⟨x, hx⟩ : ∃ x, x = ls[m] := ⟨_, rfl⟩
    rw [← hx] at c0 c1 c2
    have hxm := HM.out x (by rw [hx]; exact List.getElem_mem _)
    obtain ⟨kx, tx, px⟩ := x
    obtain ⟨sx, hsx⟩ : ∃ s, s = bs tx := ⟨_, rfl⟩
    have hsz : tx.length = sx.size := by rw [hsx, bs_size]
    dsimp only at c0 c1 c2 hxm
    rw [← hsx] at c1
    rw [hsz] at hxm
    have hP : Hid (px + sx.size = endAt 0 ls (m + 1)) := by
      show _ = _
      rw [endAt_succ 0 ls m hml, ← hx]; dsimp only; rw [hsz]
    have z1 : IntKind.i64.wrap (1 + (m : Int) - 1) = (m : Int) := by
      have e : (1 + (m : Int) - 1) = (m : Int) := by omega
      rw [e]; exact IntWalk.i64_in _ (by omega)
    have z2 : IntKind.i64.wrap ((px : Int) + (sx.size : Int)) = (px : Int) + (sx.size : Int) := IntWalk.i64_in _ (by omega)
    have z3 : 1 + (m : Int) - 1 = (m : Int) := by omega
    have hms : (m : Int) < (ns : Int) := by omega
    clear hm hx hsx hsz
    go_upto_region 10 with (fail)
    go_quiet (fail)
    go_upto_region 11 with (fail)
    obtain ⟨wz, hwz⟩ : ∃ wz, wz = w2.drewN nq := ⟨_, rfl⟩
    rw [← hwz]
    have hbb : Below w2.heap.size w2 wz := by rw [hwz]; exact below_drewN (Below.refl _ _) _
    clear hwz c0 c1 c2
    go_cut [10, 11, 12] (fun a n c wx => ∃ (P N : Nat) (x : UInt8), a = .int .i64 P ∧ n = .int .i64 N ∧ c = .int .u8 (x.toNat : Int) ∧ bl x = true ∧ N ≤ ns ∧ P ≤ s.size ∧ Hid (P = endAt 0 ls N) ∧ Below w2.heap.size w2 wx)
    case first =>
      have hr4 : (r : Int) % 4 = 0 ∨ (r : Int) % 4 = 1 ∨ (r : Int) % 4 = 2 ∨ (r : Int) % 4 = 3 := by omega
      rcases hr4 with h | h | h | h
      · go_wp2_with fail
        go_meet
        exact ⟨(px + sx.size), (m + 1), 9, by go_num, by go_num, rfl, rfl, by omega, by omega, hP, hbb.alloc hbb.size _⟩
      · go_wp2_with fail
        go_meet
        exact ⟨(px + sx.size), (m + 1), 10, by go_num, by go_num, rfl, rfl, by omega, by omega, hP, hbb.alloc hbb.size _⟩
      · go_wp2_with fail
        go_meet
        exact ⟨(px + sx.size), (m + 1), 13, by go_num, by go_num, rfl, rfl, by omega, by omega, hP, hbb.alloc hbb.size _⟩
      · go_wp2_with fail
        go_meet
        exact ⟨(px + sx.size), (m + 1), 32, by go_num, by go_num, rfl, rfl, by omega, by omega, hP, hbb.alloc hbb.size _⟩
    case rest =>
      obtain ⟨P, N, x, rfl, rfl, rfl, hx, hN, hPs, hPe, hbw⟩ := hcut
      have hdat := ins_data s P x
      obtain ⟨t, ht⟩ : ∃ t, t = s.extract 0 P ++ ⟨#[x]⟩ ++ s.extract P s.size := ⟨_, rfl⟩
      have htl : lex t.data.toList = (shiftFrom ls N, 0, 0) := by
        have h1 := lex_ins x hx s.data.toList (by rw [size_len]; omega) (by rw [HL.out]; exact HE.out) N (by rw [HL.out, ← HN.out]; exact hN) (by rw [HL.out, size_len, ← hPe.out]; exact hPs)
        rw [HL.out] at h1
        rw [ht, hdat, hPe.out]
        exact h1
      have e1sz : (s.extract 0 P).size = P := by rw [ByteArray.size_extract]; omega
      have e2sz : (s.extract P s.size).size = s.size - P := by rw [ByteArray.size_extract]; omega
      have e3sz : (s.extract 0 P ++ ⟨#[x]⟩).size = P + 1 := by rw [ByteArray.size_append, e1sz]; rfl
      have htz : t.size ≤ 140737488351232 := by rw [ht, ByteArray.size_append, e3sz, e2sz]; omega
      have cv : Utf8.encode (IntKind.i32.wrap (x.toNat : Int)) = ⟨#[x]⟩ := by rcases bl_four x hx with rfl | rfl | rfl | rfl <;> kernel_rfl
      have hb1' : ¬ 9223372036854775807 < P + 1 := by omega
      have hb2' : ¬ 9223372036854775807 < P + 1 + (s.size - P) := by omega
      have hxb : (x.toNat : Int) ≤ 32 := by rcases bl_four x hx with rfl | rfl | rfl | rfl <;> decide
      have HT := Lib.hid htl
      have hPi : (P : Int) ≤ (s.size : Int) := by omega
      have Ht := Lib.hid ht
      have Hz := Lib.hid htz
      clear hdat ht htl e1sz e2sz e3sz hx htz
      go_wp2_with fail
      refine wp_region_segs [11] (by kernel_rfl) (by kernel_rfl) ?_
      simp only [wpSegs, List.take_succ_cons, List.take_zero, List.drop_succ_cons, List.drop_zero, Nat.sub_zero, Nat.reduceSub, Nat.reduceAdd]
      repeat still_step
      refine wpStill_nil ?_
      go_wp2_with fail
      clear cv hb1' hb2'
      rw [← Ht.out]
      refine (lex_is t Hz.out (shiftFrom ls N) 0 0 HT.out ns (by rw [shift_len]; exact HN.out) _).mono ?_
      rintro e w3 ⟨A3, c3, rfl, hS3, hb3⟩
      have hS2 : Sl w3 w2.heap.size 3 (.slice _ ns ca) ns (tokCells ls) := ((HS.out.below hbw).drew).belowM hb3 hbw.size
      have hbel : Below w.heap.size w w3 := by
        have g1 := hb1.size; have g2 := hb2.size; have g3 := hbw.size
        exact (((hb1.trans (hb2.mono g1)).trans (hbw.mono (by omega))).drew).trans (hb3.mono (by show _ ≤ wc.heap.size; omega))
      have hSB := rsame_any ls (shiftFrom ls N) _ _ w3.heap.size false w3 (by rw [← HN.out]; exact hS2.more (by have := hbw.size; have g3 : wc.heap.size ≤ w3.heap.size := hb3.size; omega)) (by rw [shift_len, ← HN.out]; exact hS3) (by rw [← HN.out]; omega) (by rw [shift_len, ← HN.out]; omega)
      rw [shift_same] at hSB
      have HSB := Lib.hid hSB
      have HS2 := Lib.hid hS2
      have HS3 := Lib.hid hS3
      clear hS2 hS3 hSB
      go_wp2_with fail
      repeat still_step
      refine wpStill_nil ?_
      go_wp2_with fail
      refine HSB.out.mono ?_
      rintro e w4 ⟨rfl, k4, rfl⟩
      go_wp2_with fail
      go_loopw [92] (fun j wr => ∃ (i : Nat), i ≤ ns ∧ j = .int .i64 i ∧ (∃ k, wr = w3.drewN k)) (fun j _ => ns - (intOf j).toNat)
      case atStart => exact ⟨0, Nat.zero_le _, rfl, k4, rfl⟩
      case round =>
        obtain ⟨i, hi, rfl, k, rfl⟩ := hrel
        obtain ⟨wo, hwo⟩ : ∃ wo, wo = w3.drewN k := ⟨_, rfl⟩
        rw [← hwo]
        have HW := Lib.hid hwo
        have hcell : ∀ q, wo.cell? q = w3.cell? q := by intro q; rw [hwo]; rfl
        have HQ := Lib.hid hcell
        clear hwo hcell
        by_cases hlt : i < ns
        · have hil : i < ls.length := by rw [← HN.out]; exact hlt
          have his : i < (shiftFrom ls N).length := by rw [shift_len]; exact hil
          obtain ⟨b2, o2, rfl, c0, c1, c2⟩ := HS3.out.tok (by rw [shift_len]; exact HN.out) i hlt
          rcases HS2.out.tok HN.out i hlt with ⟨b1, o1, hA1, d0, d1, d2⟩
          first | subst hA1 | (injection hA1 with hA1; injection hA1 with hA1 hA2; subst hA1; subst hA2)
          rw [← HQ.out] at c0 c1 c2 d0 d1 d2
          have hgi := shift_get ls N i hil his
          have hxm2 := HM.out ls[i] (List.getElem_mem _)
          obtain ⟨y, hy⟩ : ∃ y, y = ls[i] := ⟨_, rfl⟩
          rw [← hy] at hgi hxm2 d2
          rw [hgi] at c2
          have g4 : (y.pos : Int) ≤ 3000 := by omega
          by_cases hiN : i < N
          · rw [if_pos hiN] at c2
            have g1 : decide ((N : Int) ≤ (i : Int)) = false := by simp; omega
            have g2 : decide (N ≤ i) = false := by simp; omega
            have z1 : IntKind.i64.wrap ((y.pos : Int) + 0) = (y.pos : Int) := by rw [Int.add_zero]; exact IntWalk.i64_in _ (by omega)
            have z2 : ((y.pos : Int) != (y.pos : Int)) = false := by simp
            have z3 : (y.pos : Int) + 0 = (y.pos : Int) := Int.add_zero _
            clear hgi hy c0 c1 d0 d1 hxm2
            go_wp2_with fail
            go_quiet (fail)
            clear z1
            go_wp2
            go_roundw
            case rel => exact ⟨i + 1, by omega, by go_num, by rw [HW.out]; exact ⟨_, by first | rfl | (simp only [World.drewN_drewN]; rfl)⟩⟩
            case measure => simp [intOf]; omega
          · rw [if_neg hiN] at c2
            have g1 : decide ((N : Int) ≤ (i : Int)) = true := by simp; omega
            have g2 : decide (N ≤ i) = true := by simp; omega
            have z1 : IntKind.i64.wrap ((y.pos : Int) + 1) = (y.pos : Int) + 1 := IntWalk.i64_in _ (by omega)
            have c2' : wo.cell? ⟨b2, o2 + i * 3 + 2, none⟩ = some (.int .i64 ((y.pos : Int) + 1)) := c2
            have z2 : ((y.pos : Int) + 1 != (y.pos : Int) + 1) = false := by simp
            clear hgi hy c0 c1 d0 d1 hxm2 c2
            go_wp2_with fail
            go_quiet (fail)
            clear z1
            go_wp2
            go_roundw
            case rel => exact ⟨i + 1, by omega, by go_num, by rw [HW.out]; exact ⟨_, by first | rfl | (simp only [World.drewN_drewN]; rfl)⟩⟩
            case measure => simp [intOf]; omega
        · go_wp2
          go_ret
          exact ⟨rfl, by rw [HW.out]; exact below_drewN hbel k⟩

set_option maxHeartbeats 4000000 in
set_option maxRecDepth 100000 in
theorem big (s : ByteArray) (q r : Int) (hs : s.size ≤ maxLen) (h : 3000 < s.size) (w : World) :
    Calls Try.prog 5 #[.string s, .int .u8 q, .int .u8 r] w fun e w' => e = .returned (.bool true) ∧ Below w.heap.size w w' := by
  unfold maxLen at hs
  go_enter Try.func5, Try.ntmps5
  go_wp2_with fail
  refine (awake_any _).mono ?_
  rintro e w1 ⟨rfl, hb1⟩
  go_wp2_with fail
  refine (awake_any _).mono ?_
  rintro e w2 ⟨rfl, hb2⟩
  go_wp2_with fail
  go_ret
  exact ⟨rfl, hb1.trans (hb2.mono hb1.size)⟩

set_option maxHeartbeats 4000000 in
set_option maxRecDepth 100000 in
theorem wrong (s : ByteArray) (q r : Int) (hs : s.size ≤ 3000) (h0 : (lex s.data.toList).2.2 ≠ 0) (w : World) :
    Calls Try.prog 5 #[.string s, .int .u8 q, .int .u8 r] w fun e w' => e = .returned (.bool true) ∧ Below w.heap.size w w' := by
  obtain ⟨ls, ps, es, hls⟩ : ∃ la pa ea, lex s.data.toList = (la, pa, ea) := ⟨_, _, _, rfl⟩
  have HL := Lib.hid hls
  rw [hls] at h0
  have he : ((es : Int) != 0) = true := by simp; omega
  clear hls h0
  go_enter Try.func5, Try.ntmps5
  go_wp2_with fail
  refine (awake_any _).mono ?_
  rintro e w1 ⟨rfl, hb1⟩
  go_wp2_with fail
  refine (lex_is s (by omega) ls ps es HL.out ls.length rfl _).mono ?_
  rintro e w2 ⟨A, ca, rfl, hSa, hb2⟩
  clear hSa
  go_wp2_with fail
  go_ret
  exact ⟨rfl, hb1.trans (hb2.mono hb1.size)⟩

theorem walk (s : ByteArray) (q r : Int) (hs : s.size ≤ maxLen) (hq : (Lit.int .u8 q).wf = true) (hr : (Lit.int .u8 r).wf = true) (w : World) :
    Calls Try.prog 5 #[.string s, .int .u8 q, .int .u8 r] w fun e w' => e = .returned (.bool true) ∧ Below w.heap.size w w' := by
  by_cases h : 3000 < s.size
  · exact big s q r hs h w
  · by_cases h0 : (lex s.data.toList).2.2 = 0
    · have b1 := bounds_u8 hq
      have b2 := bounds_u8 hr
      obtain ⟨q, rfl⟩ := Int.eq_ofNat_of_zero_le b1.1
      obtain ⟨r, rfl⟩ := Int.eq_ofNat_of_zero_le b2.1
      exact small s q r (by omega) (by omega) (by omega) h0 w
    · exact wrong s q r (by omega) h0 w

theorem own : ownKnob Try.prog.godebug = none := by kernel_rfl

set_option maxRecDepth 100000 in
theorem lifted (os : Os) (started : os.Started) (H : Type) (enc : TypeId × Value → H) :
    ReturnsInHanded {} Try.checked os 5 .any (Rows.lexerBlanksSpec.pre6 enc Try.prog Try.f5 Rows.lexerBlanksRow.domain false) (Rows.lexerBlanksSpec.post enc Try.prog Try.f5 false true false false) := by
  refine returnsInHanded_of_change (C := Try.checked) own started (by kernel_rfl) Try.func5
    (ChangeSpec.witness6 (enc := enc) (C := Try.checked) false ⟨#[], #[.string ByteArray.empty, .int .u8 0, .int .u8 0], []⟩ 8 (by kernel_rfl) (by kernel_rfl) (by kernel_rfl) (by kernel_rfl)) ?_
  intro W base args ds gs before hval0 hW hcnd _
  have hval : ∀ (j : Nat) t v, Try.f5.params[j]? = some t → args[j]? = some v → Value.okWide Try.prog W .any base t v := hval0
  have hW' := hW
  obtain ⟨p, q, hA0, hV, rfl, hfz, hnd⟩ := hW
  have hA : DataW.TrodAll enc Try.prog W 0 (fun _ => true) true Try.f5.params.toList args.toList ds p := hA0
  rw [Try.params5] at hA hval
  obtain ⟨v0, vs0, d0, ds0, p0, q0, hargs, rfl, rfl, h0, r0⟩ := trodAll_cons hA
  obtain ⟨v1, vs1, d1, ds1, p1, q1, rfl, rfl, rfl, h1, r1⟩ := trodAll_cons r0
  obtain ⟨v2, vs2, d2, ds2, p2, q2, rfl, rfl, rfl, h2, r2⟩ := trodAll_cons r1
  obtain ⟨rfl, rfl, rfl⟩ := trodAll_nil r2
  obtain rfl : args = #[v0, v1, v2] := by cases args; simp_all
  obtain ⟨rfl, rfl⟩ := trodVars_none hV
  obtain ⟨a0, rfl, rfl, rfl, w0⟩ := open_string Try.underlying9 (hval 0 9 v0 rfl rfl) h0
  obtain ⟨a1, rfl, rfl, rfl, w1⟩ := open_int Try.underlying5 (hval 1 5 v1 rfl rfl) h1
  obtain ⟨a2, rfl, rfl, rfl, w2⟩ := open_int Try.underlying5 (hval 2 5 v2 rfl rfl) h2
  clear hA0 hval0
  simp only [List.append_nil] at hW'
  refine (walk a0 a1 a2 w0 w1 w2 W).mono fun e W' ⟨he, bel⟩ => ?_
  subst he
  exact ⟨_, rfl, _, _, _, [], _, [], hW', trodAll_mk1 (shut_bool Try.underlying4 _), (trodAll_cons_mk (shut_string Try.underlying9 w0) (trodAll_cons_mk (shut_int Try.underlying5 w1) (trodAll_cons_mk (shut_int Try.underlying5 w2) trodAll_mk0))), rfl, bel.frame _, fun h => by cases h⟩

theorem over : Rows.lexerBlanksRow.holds Try.pinned (OpenSpec.ofChange Rows.lexerBlanksSpec) :=
  OpenClaim.holds_of_wide 5 Try.f5 rfl rfl rfl rfl rfl rfl rfl ⟨rfl, rfl, rfl, rfl, rfl⟩ rfl rfl rfl rfl rfl (by kernel_rfl) Try.func5 (by kernel_rfl)
    (of_decide_eq_true (by kernel_rfl)) (by unfold Func.isWrapper; first | (rw [if_pos (by decide +kernel)]; kernel_rfl) | (rw [if_neg (by decide +kernel)]; exact ⟨rfl, rfl⟩))
    (fun os started H enc _ => lifted os started H enc)

/-- THE STATEMENT -/
theorem proved : Rows.LexerBlanksSaid := over
end Go.Proofs.Ytnfbmclaenodaaa.lexerBlanks
