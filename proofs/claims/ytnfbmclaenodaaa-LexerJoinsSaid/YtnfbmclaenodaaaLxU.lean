/-
  The laws' own check awake (it answers true), and what a law's proof needs besides.
-/
import Derived.Test.YtnfbmclaenodaaaLxT
namespace Go.Proofs.Ytnfbmclaenodaaa
open Go.RowKit Lx
set_option linter.unusedSimpArgs false
set_option linter.unusedVariables false

theorem lex_awake : lex [120, 60, 61, 51] = ([⟨2, [120], 0⟩, ⟨4, [60, 61], 1⟩, ⟨1, [51], 3⟩], 0, 0) := by kernel_rfl

theorem own_slice3 {w : World} {base : Nat} {e : TypeId} {size n : Nat} {v : Value} {xs : List Value} (h : w.ownsRow base e size v n xs) (hn : 0 < n) :
    ∃ g cap, v = .slice (some ⟨g, 0, none⟩) n cap ∧ g < w.heap.size ∧ n ≤ cap ∧ ∀ j, j < n * size → w.cell? ⟨g, j, none⟩ = xs[j]? := by
  rcases h.2 with ⟨rfl, rfl⟩ | ⟨g, cap, cur, rfl, hb, hg, hnc, _⟩
  · omega
  · exact ⟨g, cap, rfl, (h.lt g rfl).2, hnc, fun j hj => h.cellAt j hj⟩

set_option maxHeartbeats 1000000 in
theorem awake_any (w : World) : Calls Try.prog 12 #[] w fun e w' => e = .returned (.bool true) ∧ Below w.heap.size w w' := by
  go_enter Try.func12, Try.ntmps12
  go_wp2_with fail
  refine (lex_any ⟨#[120, 60, 61, 51]⟩ _ (by decide)).mono ?_
  rintro e w1 ⟨v, toks, p, er, rfl, hlex, hown, hbel⟩
  have h2 : lex [120, 60, 61, 51] = (toks, p, er) := hlex
  rw [lex_awake] at h2
  injection h2 with h3 h4
  injection h4 with h5 h6
  subst h3; subst h5; subst h6
  obtain ⟨g, cap, rfl, hg, hcap, hc⟩ := own_slice3 hown (by decide)
  have hc0 : w1.cell? ⟨g, 0, none⟩ = some (.int .i64 2) := hc 0 (by decide)
  have hc1 : w1.cell? ⟨g, 1, none⟩ = some (.string ⟨#[120]⟩) := hc 1 (by decide)
  have hc2 : w1.cell? ⟨g, 2, none⟩ = some (.int .i64 0) := hc 2 (by decide)
  have hc3 : w1.cell? ⟨g, 3, none⟩ = some (.int .i64 4) := hc 3 (by decide)
  have hc4 : w1.cell? ⟨g, 4, none⟩ = some (.string ⟨#[60, 61]⟩) := hc 4 (by decide)
  have hc5 : w1.cell? ⟨g, 5, none⟩ = some (.int .i64 1) := hc 5 (by decide)
  have hc6 : w1.cell? ⟨g, 6, none⟩ = some (.int .i64 1) := hc 6 (by decide)
  have hc7 : w1.cell? ⟨g, 7, none⟩ = some (.string ⟨#[51]⟩) := hc 7 (by decide)
  have hc8 : w1.cell? ⟨g, 8, none⟩ = some (.int .i64 3) := hc 8 (by decide)
  clear hc hown hlex
  go_wp2_with fail
  go_ret
  exact ⟨rfl, hbel⟩

theorem lexBl_length : ∀ (p : Nat) (r : Bytes), (lexBl p r).1.length ≤ r.length := by
  refine lexBl_ind (fun _ => Nat.zero_le _) (fun p c r hb ih => ?_) (fun p c r hb hn => ?_) (fun p c r hb hn ih => ?_)
  · rw [lexBl_blank _ _ _ hb]; exact Nat.le_trans ih (Nat.le_succ _)
  · rw [lexBl_non _ _ _ hb, lexA_err _ _ (by simp) hn]; exact Nat.zero_le _
  · obtain ⟨h1, h2, _⟩ := next_ok _ hn
    rw [lexBl_non _ _ _ hb, lexA_ok' _ _ (by simp) hn]
    rw [List.length_drop] at ih
    show _ + 1 ≤ _
    omega
theorem before_length (s : Bytes) : (before s).1.length ≤ s.length := by rw [before_bl]; exact lexBl_length 0 s
theorem lex_length (s : Bytes) : (lex s).1.length ≤ s.length := by
  unfold lex
  split
  · exact Nat.zero_le _
  · split
    · exact before_length s
    · exact Nat.zero_le _
theorem below_drewN {B : Nat} {a w : World} (h : Below B a w) (n : Nat) : Below B a (w.drewN n) := ⟨h.os, h.tape, h.output, h.size, h.block⟩

end Go.Proofs.Ytnfbmclaenodaaa
