/-
  Check returns ErrName where a name is not valid: plain Lean.
-/
import Derived.Test.YteneobpacobpdaaGreatDoorCkN
import Derived.Test.YteneobpacobpdaaGreatDoorPrK
import Derived.Test.YteneobpacobpdaaGreatDoorRdC
set_option linter.unusedSimpArgs false
set_option linter.unusedVariables false
namespace Go.Proofs.YteneobpacobpdaaGreatDoor
open Go.RowKit
namespace Rd
open Lx Fm Dc Pr Pa
abbrev vdB (n : ByteArray) : Bool := Va.validB n.data.toList
theorem nmd_names : ∀ t : Tm, nmdT (plainT t) = (namesT t).all vdB
 | .odd => (nmd_in (by simp [hd0])).trans nmdL_nil
 | .num n l => (nmd_in (h := { hd0 1 with neg := normB n l, abs := trimN l }) ⟨by simp [hd0], by simp [hd0]⟩).trans nmdL_nil
 | .name s => by
  show nmdT (.mk { hd0 2 with name := s } []) = _
  unfold nmdT
  by_cases hv : Va.validB s.data.toList = false
  ·rw [if_pos ⟨.inl rfl, hv⟩]
   show false = (vdB s && true)
   rw [show vdB s = false from hv]; rfl
  ·rw [if_neg (fun e => hv e.2), nmdL_nil]
   show true = (vdB s && true)
   rw [show vdB s = true by simpa using hv]; rfl
 | .add l r => by rw [show nmdT (plainT (.add l r)) = nmdL [plainT l, plainT r] from nmd_in (by simp [hd0]), nmdL_cons, nmdL_cons, nmdL_nil, Bool.and_true, nmd_names l, nmd_names r]; show _ = (namesT l ++ namesT r).all vdB; rw [List.all_append]
 | .sub l r => by rw [show nmdT (plainT (.sub l r)) = nmdL [plainT l, plainT r] from nmd_in (by simp [hd0]), nmdL_cons, nmdL_cons, nmdL_nil, Bool.and_true, nmd_names l, nmd_names r]; show _ = (namesT l ++ namesT r).all vdB; rw [List.all_append]
 | .mul l r => by rw [show nmdT (plainT (.mul l r)) = nmdL [plainT l, plainT r] from nmd_in (by simp [hd0]), nmdL_cons, nmdL_cons, nmdL_nil, Bool.and_true, nmd_names l, nmd_names r]; show _ = (namesT l ++ namesT r).all vdB; rw [List.all_append]
 | .neg t => by rw [show nmdT (plainT (.neg t)) = nmdL [plainT t] from nmd_in (by simp [hd0]), nmdL_cons, nmdL_nil, Bool.and_true, nmd_names t]; rfl
 | .pow t e => by rw [show nmdT (plainT (.pow t e)) = nmdL [plainT t] from nmd_in (h := { hd0 7 with exp := max e 0 }) ⟨by simp [hd0], by simp [hd0]⟩, nmdL_cons, nmdL_nil, Bool.and_true, nmd_names t]; rfl
theorem nmd_namesF : ∀ f : Fo, ((namesF f).all vdB = true ∧ (boundN f).all vdB = true) → nmdT (plainF f) = true
 | .odd, _ => (nmd_in (h := { hd0 8 with truth := false }) ⟨by simp [hd0], by simp [hd0]⟩).trans nmdL_nil
 | .truth b, _ => (nmd_in (h := { hd0 8 with truth := b }) ⟨by simp [hd0], by simp [hd0]⟩).trans nmdL_nil
 | .atom l e r, h => by
  have h1 : (namesT l ++ namesT r).all vdB = true := h.1
  rw [List.all_append, Bool.and_eq_true] at h1
  rw [show nmdT (plainF (.atom l e r)) = nmdL [plainT l, plainT r] from nmd_in (h := { hd0 9 with rel := relR e }) ⟨by simp [hd0], by simp [hd0]⟩, nmdL_cons, nmdL_cons, nmdL_nil, nmd_names l, nmd_names r, h1.1, h1.2]; rfl
 | .not f, h => by rw [show nmdT (plainF (.not f)) = nmdL [plainF f] from nmd_in (by simp [hd0]), nmdL_cons, nmdL_nil, nmd_namesF f h]; rfl
 | .and l r, h => by
  have h1 : (namesF l ++ namesF r).all vdB = true := h.1
  have h2 : (boundN l ++ boundN r).all vdB = true := h.2
  rw [List.all_append, Bool.and_eq_true] at h1 h2
  rw [show nmdT (plainF (.and l r)) = nmdL [plainF l, plainF r] from nmd_in (by simp [hd0]), nmdL_cons, nmdL_cons, nmdL_nil, nmd_namesF l ⟨h1.1, h2.1⟩, nmd_namesF r ⟨h1.2, h2.2⟩]; rfl
 | .or l r, h => by
  have h1 : (namesF l ++ namesF r).all vdB = true := h.1
  have h2 : (boundN l ++ boundN r).all vdB = true := h.2
  rw [List.all_append, Bool.and_eq_true] at h1 h2
  rw [show nmdT (plainF (.or l r)) = nmdL [plainF l, plainF r] from nmd_in (by simp [hd0]), nmdL_cons, nmdL_cons, nmdL_nil, nmd_namesF l ⟨h1.1, h2.1⟩, nmd_namesF r ⟨h1.2, h2.2⟩]; rfl
 | .implies l r, h => by
  have h1 : (namesF l ++ namesF r).all vdB = true := h.1
  have h2 : (boundN l ++ boundN r).all vdB = true := h.2
  rw [List.all_append, Bool.and_eq_true] at h1 h2
  rw [show nmdT (plainF (.implies l r)) = nmdL [plainF l, plainF r] from nmd_in (by simp [hd0]), nmdL_cons, nmdL_cons, nmdL_nil, nmd_namesF l ⟨h1.1, h2.1⟩, nmd_namesF r ⟨h1.2, h2.2⟩]; rfl
 | .iff l r, h => by
  have h1 : (namesF l ++ namesF r).all vdB = true := h.1
  have h2 : (boundN l ++ boundN r).all vdB = true := h.2
  rw [List.all_append, Bool.and_eq_true] at h1 h2
  rw [show nmdT (plainF (.iff l r)) = nmdL [plainF l, plainF r] from nmd_in (by simp [hd0]), nmdL_cons, nmdL_cons, nmdL_nil, nmd_namesF l ⟨h1.1, h2.1⟩, nmd_namesF r ⟨h1.2, h2.2⟩]; rfl
 | .quant a n f, h => by
  obtain ⟨h1, h2⟩ := h
  have h2' : (boundN (.quant a n f)).all vdB = true := h2
  rw [show boundN (.quant a n f) = n :: boundN f from rfl, List.all_cons, Bool.and_eq_true] at h2'
  have ih := nmd_namesF f ⟨h1, h2'.2⟩
  exact nmd_yes (h := { hd0 15 with name := n, all := a }) (nm_valid h2'.1) (by rw [nmdL_cons, nmdL_nil, ih]; rfl)
theorem ck1_all (l : List ByteArray) : ∀ s : CkS, (l.foldl ckStep s).2.2 = (s.2.2 && l.all vdB) := by
 induction l with
 | nil => intro s; simp
 | cons a l ih => intro s; rw [List.foldl_cons, ih]; show ((s.2.2 && vdB a) && l.all vdB) = _; rw [List.all_cons, Bool.and_assoc]
theorem b_all (l : List ByteArray) : ∀ p : CkS × List ByteArray, (l.foldl bStep p).1.2.2 = true → p.1.2.2 = true ∧ l.all vdB = true := by
 induction l with
 | nil => intro p h; exact ⟨h, rfl⟩
 | cons a l ih =>
  intro p h
  rw [List.foldl_cons] at h
  obtain ⟨h1, h2⟩ := ih _ h
  have h3 : (if a ∈ p.2 then false else (p.1.2.2 && vdB a)) = true := h1
  split at h3
  ·cases h3
  ·rw [Bool.and_eq_true] at h3
   exact ⟨h3.1, by rw [List.all_cons, h3.2, h2]; rfl⟩
theorem f_all (q : List ByteArray) (l : List ByteArray) : ∀ v : Bool, l.foldl (fStep q) v = true → v = true := by
 induction l with
 | nil => intro v h; exact h
 | cons a l ih =>
  intro v h
  rw [List.foldl_cons] at h
  have h1 := ih _ h
  unfold fStep at h1
  split at h1
  ·cases h1
  ·exact h1
theorem step_len (g : ByteArray → Int) (s : List ByteArray) (nm : ByteArray) : (freeStep s g nm).length ≤ s.length + 1 := by
 unfold freeStep; split
 ·simp
 ·omega
theorem fold_len (g : ByteArray → Int) (l : List ByteArray) : ∀ s : List ByteArray, (l.foldl (fun s nm => freeStep s g nm) s).length ≤ s.length + l.length := by
 induction l with
 | nil => intro s; simp
 | cons a l ih => intro s; rw [List.foldl_cons, List.length_cons]; have := ih (freeStep s g a); have := step_len g s a; omega
theorem free_len (f : Fo) : ∀ (g : ByteArray → Int) (s : List ByteArray), (walkS freeStep f g s).length ≤ s.length + fsz f := by
 induction f with
 | odd => intro g s; exact Nat.le_add_right _ _
 | truth b => intro g s; exact Nat.le_add_right _ _
 | atom l e r => intro g s; unfold walkS fsz; have h1 := fold_len g (namesT l) s; have h2 := fold_len g (namesT r) ((namesT l).foldl (fun s nm => freeStep s g nm) s); omega
 | not f ih => intro g s; unfold walkS fsz; have := ih g s; omega
 | and l r il ir => intro g s; unfold walkS fsz; have := il g s; have := ir g (walkS freeStep l g s); omega
 | or l r il ir => intro g s; unfold walkS fsz; have := il g s; have := ir g (walkS freeStep l g s); omega
 | implies l r il ir => intro g s; unfold walkS fsz; have := il g s; have := ir g (walkS freeStep l g s); omega
 | iff l r il ir => intro g s; unfold walkS fsz; have := il g s; have := ir g (walkS freeStep l g s); omega
 | quant a n f ih => intro g s; unfold walkS fsz; have := ih (incG g n) s; omega
theorem fold_in (g : ByteArray → Int) (l : List ByteArray) : ∀ (s : List ByteArray) (x : ByteArray), x ∈ l.foldl (fun s nm => freeStep s g nm) s → x ∈ s ∨ x ∈ l := by
 induction l with
 | nil => intro s x h; exact .inl h
 | cons a l ih =>
  intro s x h
  rw [List.foldl_cons] at h
  rcases ih _ _ h with h | h
  ·unfold freeStep at h
   split at h
   ·rw [List.mem_append, List.mem_singleton] at h
    rcases h with h | rfl
    ·exact .inl h
    ·exact .inr (List.mem_cons_self ..)
   ·exact .inl h
  ·exact .inr (List.mem_cons_of_mem _ h)
theorem free_in (f : Fo) : ∀ (g : ByteArray → Int) (s : List ByteArray) (x : ByteArray), x ∈ walkS freeStep f g s → x ∈ s ∨ x ∈ namesF f := by
 induction f with
 | odd => intro g s x h; exact .inl h
 | truth b => intro g s x h; exact .inl h
 | atom l e r =>
  intro g s x h
  unfold walkS at h
  unfold namesF
  rw [List.mem_append]
  rcases fold_in g _ _ _ h with h | h
  ·rcases fold_in g _ _ _ h with h | h
   ·exact .inl h
   ·exact .inr (.inl h)
  ·exact .inr (.inr h)
 | not f ih => intro g s x h; exact ih g s x h
 | and l r il ir => intro g s x h; unfold walkS at h; unfold namesF; rw [List.mem_append]; rcases ir _ _ _ h with h | h; (rcases il _ _ _ h with h | h; exact .inl h; exact .inr (.inl h)); exact .inr (.inr h)
 | or l r il ir => intro g s x h; unfold walkS at h; unfold namesF; rw [List.mem_append]; rcases ir _ _ _ h with h | h; (rcases il _ _ _ h with h | h; exact .inl h; exact .inr (.inl h)); exact .inr (.inr h)
 | implies l r il ir => intro g s x h; unfold walkS at h; unfold namesF; rw [List.mem_append]; rcases ir _ _ _ h with h | h; (rcases il _ _ _ h with h | h; exact .inl h; exact .inr (.inl h)); exact .inr (.inr h)
 | iff l r il ir => intro g s x h; unfold walkS at h; unfold namesF; rw [List.mem_append]; rcases ir _ _ _ h with h | h; (rcases il _ _ _ h with h | h; exact .inl h; exact .inr (.inl h)); exact .inr (.inr h)
 | quant a n f ih => intro g s x h; exact ih _ s x h
theorem free_fn (f : Fo) : (freeN f).length ≤ fnn f := by
 have h1 := free_len f (fun _ => 0) []
 have h2 := fsz_le f
 show (walkS freeStep f (fun _ => 0) []).length ≤ fnn f
 simp only [List.length_nil] at h1
 omega
theorem fsz_fn (f : Fo) : fsz f ≤ fnn f := fsz_le f
theorem nameT_size : ∀ t : Tm, bdT t → ∀ n ∈ namesT t, n.size ≤ 9223372036854775807
 | .odd, _, n, hn => absurd hn List.not_mem_nil
 | .num b l, _, n, hn => absurd hn List.not_mem_nil
 | .name s, h, n, hn => by rw [List.mem_singleton.1 hn]; have h' : s.size ≤ 40 := h; omega
 | .add l r, h, n, hn => by rcases List.mem_append.1 hn with hn | hn; exact nameT_size l h.1 n hn; exact nameT_size r h.2 n hn
 | .sub l r, h, n, hn => by rcases List.mem_append.1 hn with hn | hn; exact nameT_size l h.1 n hn; exact nameT_size r h.2 n hn
 | .mul l r, h, n, hn => by rcases List.mem_append.1 hn with hn | hn; exact nameT_size l h.1 n hn; exact nameT_size r h.2 n hn
 | .neg t, h, n, hn => nameT_size t h n hn
 | .pow t e, h, n, hn => nameT_size t h.1 n hn
theorem nameF_size : ∀ f : Fo, bdF f → ∀ n ∈ namesF f, n.size ≤ 9223372036854775807
 | .odd, _, n, hn => absurd hn List.not_mem_nil
 | .truth b, _, n, hn => absurd hn List.not_mem_nil
 | .atom l e r, h, n, hn => by rcases List.mem_append.1 hn with hn | hn; exact nameT_size l h.1 n hn; exact nameT_size r h.2 n hn
 | .not f, h, n, hn => nameF_size f h n hn
 | .and l r, h, n, hn => by rcases List.mem_append.1 hn with hn | hn; exact nameF_size l h.1 n hn; exact nameF_size r h.2 n hn
 | .or l r, h, n, hn => by rcases List.mem_append.1 hn with hn | hn; exact nameF_size l h.1 n hn; exact nameF_size r h.2 n hn
 | .implies l r, h, n, hn => by rcases List.mem_append.1 hn with hn | hn; exact nameF_size l h.1 n hn; exact nameF_size r h.2 n hn
 | .iff l r, h, n, hn => by rcases List.mem_append.1 hn with hn | hn; exact nameF_size l h.1 n hn; exact nameF_size r h.2 n hn
 | .quant a m f, h, n, hn => nameF_size f h.2 n hn
theorem bnd_size : ∀ f : Fo, bdF f → ∀ n ∈ boundN f, n.size ≤ 9223372036854775807
 | .odd, _, n, hn => absurd hn List.not_mem_nil
 | .truth b, _, n, hn => absurd hn List.not_mem_nil
 | .atom l e r, h, n, hn => absurd hn List.not_mem_nil
 | .not f, h, n, hn => bnd_size f h n hn
 | .and l r, h, n, hn => by rcases List.mem_append.1 hn with hn | hn; exact bnd_size l h.1 n hn; exact bnd_size r h.2 n hn
 | .or l r, h, n, hn => by rcases List.mem_append.1 hn with hn | hn; exact bnd_size l h.1 n hn; exact bnd_size r h.2 n hn
 | .implies l r, h, n, hn => by rcases List.mem_append.1 hn with hn | hn; exact bnd_size l h.1 n hn; exact bnd_size r h.2 n hn
 | .iff l r, h, n, hn => by rcases List.mem_append.1 hn with hn | hn; exact bnd_size l h.1 n hn; exact bnd_size r h.2 n hn
 | .quant a m f, h, n, hn => by
  rcases List.mem_cons.1 hn with hn | hn
  ·have := h.1; rw [hn]; omega
  ·exact bnd_size f h.2 n hn
theorem free_size (f : Fo) (h : bdF f) : ∀ n ∈ freeN f, n.size ≤ 9223372036854775807 := fun n hn => by
 rcases free_in f (fun _ => 0) [] n hn with h1 | h1
 ·exact absurd h1 List.not_mem_nil
 ·exact nameF_size f h n h1
theorem check_name (f : Fo) (h : nmdT (plainF f) = false) : ckOk f = false := by
 cases hk : ckOk f with
 | false => rfl
 | true =>
  unfold ckOk at hk
  have h1 := f_all _ _ _ hk
  unfold ckS2 at h1
  obtain ⟨h2, h3⟩ := b_all _ _ h1
  unfold ckS1 at h2
  have h2' : ((namesF f).foldl ckStep (0, [], true)).2.2 = true := h2
  rw [ck1_all] at h2'
  have h4 : (namesF f).all vdB = true := by simpa using h2'
  rw [nmd_namesF f ⟨h4, h3⟩] at h
  cases h
end Rd
end Go.Proofs.YteneobpacobpdaaGreatDoor
