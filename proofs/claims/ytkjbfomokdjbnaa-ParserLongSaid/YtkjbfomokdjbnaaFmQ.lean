/-
  formula.PlainTerm: the leaves, and the whole.
-/
import Derived.Test.YtkjbfomokdjbnaaFmP
namespace Go.Proofs.Ytkjbfomokdjbnaa
open Go.RowKit
set_option linter.unusedSimpArgs false
set_option linter.unusedVariables false
namespace Fm
attribute [local go_sem] run_store taNum_yes taNum_no taNum_nil taName_yes taName_no taName_nil taAdd_yes taAdd_no taAdd_nil taSub_yes taSub_no taSub_nil taMul_yes taMul_no taMul_nil taNeg_yes taNeg_no taNeg_nil taPow_yes taPow_no taPow_nil
set_option maxRecDepth 100000 in
set_option maxHeartbeats 4000000 in
theorem plain_num (neg : Bool) (abs : List Nat) (A : Option Addr) (n c : Nat) (S : Nat → Prop) (w : World) (hS : ∀ b, S b → b < w.heap.size) (hA : AbsAt w S (.slice A n c) abs) (hl : abs.length ≤ 1000000) :
    Calls Try.prog 17 #[.iface 65 (.agg #[.bool neg, .slice A n c])] w (TreePost (plainT (.num neg abs)) w) := by
  obtain ⟨W, hW⟩ : ∃ W, (w.alloc (.cells #[.int .i64 0, .bool false, .slice none 0 0, .string ⟨#[]⟩, .int .i64 0, .int .i64 0, .bool false, .bool false, .slice none 0 0] TT)).alloc (.cells #[.bool neg, .slice A n c] 65) = W := ⟨_, rfl⟩
  obtain ⟨r, hr⟩ : ∃ r, r = normB neg abs := ⟨_, rfl⟩
  have hpl : plainT (.num neg abs) = .mk { hd0 1 with neg := r, abs := trimN abs } [] := by rw [hr]; rfl
  rw [hpl]
  have hx : Box w W w.heap.size #[.int .i64 0, .bool false, .slice none 0 0, .string ⟨#[]⟩, .int .i64 0, .int .i64 0, .bool false, .bool false, .slice none 0 0] TT := by rw [← hW]; exact (Box.new w _ _).alloc _
  obtain ⟨s0, s1⟩ : W.cell? ⟨w.heap.size + 1, 0, none⟩ = some (.bool neg) ∧ W.cell? ⟨w.heap.size + 1, 1, none⟩ = some (.slice A n c) := by (have hy : Box w W (w.heap.size + 1) #[.bool neg, .slice A n c] 65 := (by rw [← hW]; exact Box.second w _ _ _); exact hy.c2)
  have hWs : W.heap.size = w.heap.size + 2 := by rw [← hW]; simp
  have HX := Lib.hid hx
  have HN := Lib.hid (normal_any neg abs (.slice A n c) S W (fun b hb => by have := hS b hb; omega) (hA.below hS hx.below) hl)
  have HR := Lib.hid hr
  have HWS := Lib.hid hWs
  clear hr hpl hx hWs hA
  go_enter Try.func17, Try.ntmps17
  go_wp2_with (go_at_call 24; refine HN.out.mono ?_; intro e w3 hq; obtain ⟨A', n', c', rfl, hA', hb3⟩ := hq.named r HR.out; clear hq; have HA := Lib.hid hA'; clear hA'; have xc := (HX.out.step hb3).cell; have xf := (HX.out.step hb3).fz)
  clear hW
  refine bodyPost_ret (v := .agg #[.int .i64 1, .bool r, .slice A' n' c', .string ⟨#[]⟩, .int .i64 0, .int .i64 0, .bool false, .bool false, .slice none 0 0]) (by simp [results, Try.results17, go_sem, xc, xf]) rfl ?_
  have hws := HWS.out
  have s3 := hb3.size
  refine ⟨A', n', c', none, 0, 0, rfl, ?_, ?_⟩
  · have h2 : TreeAt w3 (Fd w 2 w3) (.mk { hd0 1 with neg := r, abs := trimN abs } []) (hdC { hd0 1 with neg := r, abs := trimN abs } (.slice A' n' c') (.slice none 0 0)) := no_kids (HA.out.more (fun b hb => ⟨by omega, hb.2⟩)) (show (⟨#[]⟩ : ByteArray).size ≤ _ from by decide)
    exact TreeAt.more (fun b hb => ⟨by omega, by rw [size_set9]; exact hb.2⟩) _ _ (h2.set9 (X := w.heap.size) (fun h => by have := h.1; omega) _ _ _ _ _ _ _ _ _)
  · exact below_set9 (HX.out.step hb3).below (Nat.le_refl _) _ _ _ _ _ _ _ _ _

set_option maxRecDepth 100000 in
set_option maxHeartbeats 4000000 in
theorem plain_name (s : ByteArray) (w : World) (hs : s.size ≤ 9223372036854775807) :
    Calls Try.prog 17 #[.iface 62 (.agg #[.string s])] w (TreePost (plainT (.name s)) w) := by
  obtain ⟨W, hW⟩ : ∃ W, (w.alloc (.cells #[.int .i64 0, .bool false, .slice none 0 0, .string ⟨#[]⟩, .int .i64 0, .int .i64 0, .bool false, .bool false, .slice none 0 0] TT)).alloc (.cells #[.string s] 62) = W := ⟨_, rfl⟩
  have hx : Box w W w.heap.size #[.int .i64 0, .bool false, .slice none 0 0, .string ⟨#[]⟩, .int .i64 0, .int .i64 0, .bool false, .bool false, .slice none 0 0] TT := by rw [← hW]; exact (Box.new w _ _).alloc _
  have s0 : W.cell? ⟨w.heap.size + 1, 0, none⟩ = some (.string s) := by (have hy : Box w W (w.heap.size + 1) #[.string s] 62 := (by rw [← hW]; exact Box.second w _ _ _); exact hy.cell 0)
  have hWs : W.heap.size = w.heap.size + 2 := by rw [← hW]; simp
  have HX := Lib.hid hx
  have xc := hx.cell
  have xf := hx.fz
  clear hx hWs
  go_enter Try.func17, Try.ntmps17
  go_wp2
  clear hW
  refine bodyPost_ret (v := .agg #[.int .i64 2, .bool false, .slice none 0 0, .string s, .int .i64 0, .int .i64 0, .bool false, .bool false, .slice none 0 0]) (by simp [results, Try.results17, go_sem, xc, xf]) rfl ?_
  refine ⟨none, 0, 0, none, 0, 0, rfl, ?_, ?_⟩
  · have h2 : TreeAt W (fun _ => False) (.mk { hd0 2 with name := s } []) (hdC { hd0 2 with name := s } (.slice none 0 0) (.slice none 0 0)) := no_kids AbsAt.empty hs
    exact TreeAt.more (fun b hb => False.elim hb) _ _ (h2.set9 (X := w.heap.size) (fun h => h) _ _ _ _ _ _ _ _ _)
  · exact below_set9 HX.out.below (Nat.le_refl _) _ _ _ _ _ _ _ _ _

set_option maxRecDepth 100000 in
set_option maxHeartbeats 4000000 in
theorem plain_odd (v : Value) (w : World) (h : OddV v) : Calls Try.prog 17 #[v] w (TreePost (plainT .odd) w) := by
  obtain ⟨W, hW⟩ : ∃ W, w.alloc (.cells #[.int .i64 0, .bool false, .slice none 0 0, .string ⟨#[]⟩, .int .i64 0, .int .i64 0, .bool false, .bool false, .slice none 0 0] TT) = W := ⟨_, rfl⟩
  have hx : Box w W w.heap.size #[.int .i64 0, .bool false, .slice none 0 0, .string ⟨#[]⟩, .int .i64 0, .int .i64 0, .bool false, .bool false, .slice none 0 0] TT := by rw [← hW]; exact Box.new w _ _
  have HX := Lib.hid hx
  have xc := hx.cell
  have xf := hx.fz
  clear hx
  have fin : ∀ v0 : Value, v0 = .agg #[.int .i64 1, .bool false, .slice none 0 0, .string ⟨#[]⟩, .int .i64 0, .int .i64 0, .bool false, .bool false, .slice none 0 0] → TreePost (plainT .odd) w (.returned v0) (set9 W w.heap.size (.int .i64 1) (.bool false) (.slice none 0 0) (.string ⟨#[]⟩) (.int .i64 0) (.int .i64 0) (.bool false) (.bool false) (.slice none 0 0)) := by
    rintro v0 rfl
    refine ⟨none, 0, 0, none, 0, 0, rfl, ?_, below_set9 HX.out.below (Nat.le_refl _) _ _ _ _ _ _ _ _ _⟩
    have h2 : TreeAt W (fun _ => False) (.mk (hd0 1) []) (hdC (hd0 1) (.slice none 0 0) (.slice none 0 0)) := no_kids AbsAt.empty (by decide)
    exact TreeAt.more (fun b hb => False.elim hb) _ _ (h2.set9 (X := w.heap.size) (fun h => h) _ _ _ _ _ _ _ _ _)
  have Fin := Lib.hid fin
  clear fin
  rcases h with rfl | ⟨u, a, rfl, hu⟩
  · go_enter Try.func17, Try.ntmps17
    go_wp2
    clear hW
    exact bodyPost_ret (v := .agg #[.int .i64 1, .bool false, .slice none 0 0, .string ⟨#[]⟩, .int .i64 0, .int .i64 0, .bool false, .bool false, .slice none 0 0]) (by simp [results, Try.results17, go_sem, xc, xf]) rfl (Fin.out _ rfl)
  · simp only [List.mem_cons, List.not_mem_nil, or_false, not_or] at hu
    obtain ⟨u1, u2, u3, u4, u5, u6, u7, _⟩ := hu
    go_enter Try.func17, Try.ntmps17
    go_wp2
    clear hW
    exact bodyPost_ret (v := .agg #[.int .i64 1, .bool false, .slice none 0 0, .string ⟨#[]⟩, .int .i64 0, .int .i64 0, .bool false, .bool false, .slice none 0 0]) (by simp [results, Try.results17, go_sem, xc, xf]) rfl (Fin.out _ rfl)

theorem plainTerm_any : ∀ (t : Tm) (v : Value) (S : Nat → Prop) (w : World), (∀ b, S b → b < w.heap.size) → TmAt w S t v → SmT t → Calls Try.prog 17 #[v] w (TreePost (plainT t) w) := by
  intro t
  induction t with
  | odd => intro v S w hS h hs; exact plain_odd v w h
  | num neg abs => rintro v S w hS ⟨A, n, c, rfl, hA⟩ hs; exact plain_num neg abs A n c S w hS hA hs
  | name s => rintro v S w hS ⟨rfl, hl⟩ hs; exact plain_name s w hl
  | add l r il ir =>
    rintro v S w hS ⟨vl, vr, rfl, h1, h2⟩ hs
    exact plain_add l r vl vr w h1.one h2.one (fun w' hb => il vl S w' (fun b hb' => Nat.lt_of_lt_of_le (hS b hb') hb.size) (h1.below hS hb) hs.1) (fun w' hb => ir vr S w' (fun b hb' => Nat.lt_of_lt_of_le (hS b hb') hb.size) (h2.below hS hb) hs.2)
  | sub l r il ir =>
    rintro v S w hS ⟨vl, vr, rfl, h1, h2⟩ hs
    exact plain_sub l r vl vr w h1.one h2.one (fun w' hb => il vl S w' (fun b hb' => Nat.lt_of_lt_of_le (hS b hb') hb.size) (h1.below hS hb) hs.1) (fun w' hb => ir vr S w' (fun b hb' => Nat.lt_of_lt_of_le (hS b hb') hb.size) (h2.below hS hb) hs.2)
  | mul l r il ir =>
    rintro v S w hS ⟨vl, vr, rfl, h1, h2⟩ hs
    exact plain_mul l r vl vr w h1.one h2.one (fun w' hb => il vl S w' (fun b hb' => Nat.lt_of_lt_of_le (hS b hb') hb.size) (h1.below hS hb) hs.1) (fun w' hb => ir vr S w' (fun b hb' => Nat.lt_of_lt_of_le (hS b hb') hb.size) (h2.below hS hb) hs.2)
  | neg t it =>
    rintro v S w hS ⟨vt, rfl, h1⟩ hs
    exact plain_neg t vt w h1.one (fun w' hb => it vt S w' (fun b hb' => Nat.lt_of_lt_of_le (hS b hb') hb.size) (h1.below hS hb) hs)
  | pow t e it =>
    rintro v S w hS ⟨vt, rfl, h1⟩ hs
    exact plain_pow e _ rfl t vt w h1.one (fun w' hb => it vt S w' (fun b hb' => Nat.lt_of_lt_of_le (hS b hb') hb.size) (h1.below hS hb) hs)

end Fm
end Go.Proofs.Ytkjbfomokdjbnaa
