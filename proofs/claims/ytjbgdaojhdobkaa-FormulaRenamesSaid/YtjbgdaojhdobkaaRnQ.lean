/-
  Rename: renamed back it is the formula again, in plain Lean.
-/
import Derived.Test.YtjbgdaojhdobkaaRnP
import Derived.Test.YtjbgdaojhdobkaaFmBi
namespace Go.Proofs.Ytjbgdaojhdobkaa
set_option linter.unusedSimpArgs false
set_option linter.unusedVariables false
namespace Rn
open Fm
variable {fr to_ : ByteArray}

def isFree (x : ByteArray) : Fo → Prop
  | .atom l _ r => x ∈ namesT l ∨ x ∈ namesT r
  | .not f => isFree x f
  | .and l r => isFree x l ∨ isFree x r
  | .or l r => isFree x l ∨ isFree x r
  | .implies l r => isFree x l ∨ isFree x r
  | .iff l r => isFree x l ∨ isFree x r
  | .quant _ n f => x ≠ n ∧ isFree x f
  | _ => False
theorem step_mem (g : ByteArray → Int) (s : List ByteArray) (nm x : ByteArray) : x ∈ freeStep s g nm ↔ x ∈ s ∨ (g x = 0 ∧ x = nm) := by
  unfold freeStep
  split
  · rename_i h
    rw [List.mem_append, List.mem_singleton]
    constructor
    · rintro (h1 | rfl)
      · exact .inl h1
      · exact .inr ⟨h.1, rfl⟩
    · rintro (h1 | ⟨_, rfl⟩)
      · exact .inl h1
      · exact .inr rfl
  · rename_i h
    constructor
    · exact .inl
    · rintro (h1 | ⟨h2, rfl⟩)
      · exact h1
      · exact Classical.byContradiction fun h3 => h ⟨h2, h3⟩
theorem fold_step_mem (g : ByteArray → Int) (l : List ByteArray) (x : ByteArray) : ∀ s : List ByteArray, x ∈ l.foldl (fun s nm => freeStep s g nm) s ↔ x ∈ s ∨ (g x = 0 ∧ x ∈ l) := by
  induction l with
  | nil => intro s; simp
  | cons a l ih =>
    intro s
    rw [List.foldl_cons, ih, step_mem, List.mem_cons]
    constructor
    · rintro ((h | ⟨h1, h2⟩) | ⟨h1, h2⟩)
      · exact .inl h
      · exact .inr ⟨h1, .inl h2⟩
      · exact .inr ⟨h1, .inr h2⟩
    · rintro (h | ⟨h1, h2 | h2⟩)
      · exact .inl (.inl h)
      · exact .inl (.inr ⟨h1, h2⟩)
      · exact .inr ⟨h1, h2⟩
theorem two_mem {a b c p : Prop} : ((a ∨ (p ∧ b)) ∨ (p ∧ c)) ↔ (a ∨ (p ∧ (b ∨ c))) := by
  constructor
  · rintro ((h | ⟨h1, h2⟩) | ⟨h1, h2⟩)
    · exact .inl h
    · exact .inr ⟨h1, .inl h2⟩
    · exact .inr ⟨h1, .inr h2⟩
  · rintro (h | ⟨h1, h2 | h2⟩)
    · exact .inl (.inl h)
    · exact .inl (.inr ⟨h1, h2⟩)
    · exact .inr ⟨h1, h2⟩
theorem free_mem (f : Fo) (x : ByteArray) : ∀ (g : ByteArray → Int) (s : List ByteArray), (∀ y, 0 ≤ g y) → (x ∈ walkS freeStep f g s ↔ x ∈ s ∨ (g x = 0 ∧ isFree x f)) := by
  induction f with
  | odd => intro g s hn; simp [walkS, isFree]
  | truth b => intro g s hn; simp [walkS, isFree]
  | atom l e r => intro g s hn; unfold walkS isFree; rw [fold_step_mem, fold_step_mem, two_mem]
  | not f ih => intro g s hn; exact ih g s hn
  | and l r il ir => intro g s hn; unfold walkS; rw [ir g _ hn, il g s hn, two_mem]; rfl
  | or l r il ir => intro g s hn; unfold walkS; rw [ir g _ hn, il g s hn, two_mem]; rfl
  | implies l r il ir => intro g s hn; unfold walkS; rw [ir g _ hn, il g s hn, two_mem]; rfl
  | iff l r il ir => intro g s hn; unfold walkS; rw [ir g _ hn, il g s hn, two_mem]; rfl
  | quant a n f ih =>
    intro g s hn
    show x ∈ walkS freeStep f (incG g n) s ↔ x ∈ s ∨ (g x = 0 ∧ (x ≠ n ∧ isFree x f))
    rw [ih (incG g n) s (incG_nn hn)]
    by_cases e : x = n
    · subst e
      have := hn x
      have h1 : ¬ incG g x x = 0 := by unfold incG; rw [if_pos rfl]; omega
      simp [h1]
    · have h1 : incG g n x = g x := by unfold incG; rw [if_neg e]
      rw [h1]; simp [e]
theorem freeN_mem (f : Fo) (x : ByteArray) : x ∈ freeN f ↔ isFree x f := by
  unfold freeN
  rw [free_mem f x _ _ (fun _ => Int.le_refl _)]; simp

theorem renTm_same (tm : Tm) : fr ∉ namesT tm → renTm fr to_ tm = tm := by
  induction tm with
  | name s => intro h; unfold renTm; rw [if_neg (fun e => h (by simp [namesT, e]))]
  | add l r il ir => intro h; show Tm.add _ _ = _; rw [il (fun x => h (List.mem_append_left _ x)), ir (fun x => h (List.mem_append_right _ x))]
  | sub l r il ir => intro h; show Tm.sub _ _ = _; rw [il (fun x => h (List.mem_append_left _ x)), ir (fun x => h (List.mem_append_right _ x))]
  | mul l r il ir => intro h; show Tm.mul _ _ = _; rw [il (fun x => h (List.mem_append_left _ x)), ir (fun x => h (List.mem_append_right _ x))]
  | neg t ih => intro h; show Tm.neg _ = _; rw [ih h]
  | pow t e ih => intro h; show Tm.pow _ _ = _; rw [ih h]
  | _ => intro h; rfl
theorem renTm_back (tm : Tm) : to_ ∉ namesT tm → renTm to_ fr (renTm fr to_ tm) = tm := by
  induction tm with
  | name s =>
    intro h
    have h1 : s ≠ to_ := fun e => h (by simp [namesT, e])
    by_cases e : s = fr
    · subst e
      have : renTm s to_ (.name s) = .name to_ := by unfold renTm; rw [if_pos rfl]
      rw [this]; unfold renTm; rw [if_pos rfl]
    · have : renTm fr to_ (.name s) = .name s := by unfold renTm; rw [if_neg e]
      rw [this]; unfold renTm; rw [if_neg h1]
  | add l r il ir => intro h; show Tm.add _ _ = _; rw [il (fun x => h (List.mem_append_left _ x)), ir (fun x => h (List.mem_append_right _ x))]
  | sub l r il ir => intro h; show Tm.sub _ _ = _; rw [il (fun x => h (List.mem_append_left _ x)), ir (fun x => h (List.mem_append_right _ x))]
  | mul l r il ir => intro h; show Tm.mul _ _ = _; rw [il (fun x => h (List.mem_append_left _ x)), ir (fun x => h (List.mem_append_right _ x))]
  | neg t ih => intro h; show Tm.neg _ = _; rw [ih h]
  | pow t e ih => intro h; show Tm.pow _ _ = _; rw [ih h]
  | _ => intro h; rfl
theorem renF_same (f : Fo) : ¬ isFree fr f → renF fr to_ f = f := by
  induction f with
  | atom l e r => intro h; show Fo.atom _ _ _ = _; rw [renTm_same l (fun x => h (.inl x)), renTm_same r (fun x => h (.inr x))]
  | not f ih => intro h; show Fo.not _ = _; rw [ih h]
  | and l r il ir => intro h; show Fo.and _ _ = _; rw [il (fun x => h (.inl x)), ir (fun x => h (.inr x))]
  | or l r il ir => intro h; show Fo.or _ _ = _; rw [il (fun x => h (.inl x)), ir (fun x => h (.inr x))]
  | implies l r il ir => intro h; show Fo.implies _ _ = _; rw [il (fun x => h (.inl x)), ir (fun x => h (.inr x))]
  | iff l r il ir => intro h; show Fo.iff _ _ = _; rw [il (fun x => h (.inl x)), ir (fun x => h (.inr x))]
  | quant a n f ih =>
    intro h
    show (if n = fr then Fo.quant a n f else Fo.quant a n (renF fr to_ f)) = _
    by_cases e : n = fr
    · rw [if_pos e]
    · rw [if_neg e, ih (fun x => h ⟨fun e2 => e e2.symm, x⟩)]
  | _ => intro h; rfl
/-- inside a quantifier of the new name nothing may be free -/
theorem cap_true {t : Tr} {f : Fo} (h : RF t f) : capT fr to_ t true = false → ¬ isFree fr f := by
  induction h with
  | truth h hk => intro _ h; exact h
  | atom h a b p q hk hr ha hb => intro hc hf; rw [capT_in _ (by omega), capL_two, cap_tm ha, cap_tm hb] at hc; simp at hc; rcases hf with hf | hf; exact hc.1 hf; exact hc.2 hf
  | not h a p hk ha ia => intro hc; rw [capT_in _ (by omega), capL_one] at hc; exact ia hc
  | and h a b p q hk ha hb ia ib => intro hc hf; rw [capT_in _ (by omega), capL_two, Bool.or_eq_false_iff] at hc; rcases hf with hf | hf; exact ia hc.1 hf; exact ib hc.2 hf
  | or h a b p q hk ha hb ia ib => intro hc hf; rw [capT_in _ (by omega), capL_two, Bool.or_eq_false_iff] at hc; rcases hf with hf | hf; exact ia hc.1 hf; exact ib hc.2 hf
  | implies h a b p q hk ha hb ia ib => intro hc hf; rw [capT_in _ (by omega), capL_two, Bool.or_eq_false_iff] at hc; rcases hf with hf | hf; exact ia hc.1 hf; exact ib hc.2 hf
  | iff h a b p q hk ha hb ia ib => intro hc hf; rw [capT_in _ (by omega), capL_two, Bool.or_eq_false_iff] at hc; rcases hf with hf | hf; exact ia hc.1 hf; exact ib hc.2 hf
  | quant h a p hk ha ia =>
    intro hc hf
    rw [capT_mk, if_neg (by omega), if_neg (fun x => hf.1 x.2.symm), capL_one, Bool.true_or] at hc
    exact ia hc hf.2
theorem ren_back {t : Tr} {f : Fo} (h : RF t f) : fr ∉ boundN f → capT fr to_ t false = false → ¬ isFree to_ f → renF to_ fr (renF fr to_ f) = f := by
  induction h with
  | truth h hk => intro _ _ _; rfl
  | atom h a b p q hk hr ha hb => intro _ _ hf; show Fo.atom _ _ _ = _; rw [renTm_back p (fun x => hf (.inl x)), renTm_back q (fun x => hf (.inr x))]
  | not h a p hk ha ia => intro hb hc hf; rw [capT_in _ (by omega), capL_one] at hc; show Fo.not _ = _; rw [ia hb hc hf]
  | and h a b p q hk ha hb ia ib => intro hb hc hf; rw [capT_in _ (by omega), capL_two, Bool.or_eq_false_iff] at hc; show Fo.and _ _ = _; rw [ia (fun x => hb (List.mem_append_left _ x)) hc.1 (fun x => hf (.inl x)), ib (fun x => hb (List.mem_append_right _ x)) hc.2 (fun x => hf (.inr x))]
  | or h a b p q hk ha hb ia ib => intro hb hc hf; rw [capT_in _ (by omega), capL_two, Bool.or_eq_false_iff] at hc; show Fo.or _ _ = _; rw [ia (fun x => hb (List.mem_append_left _ x)) hc.1 (fun x => hf (.inl x)), ib (fun x => hb (List.mem_append_right _ x)) hc.2 (fun x => hf (.inr x))]
  | implies h a b p q hk ha hb ia ib => intro hb hc hf; rw [capT_in _ (by omega), capL_two, Bool.or_eq_false_iff] at hc; show Fo.implies _ _ = _; rw [ia (fun x => hb (List.mem_append_left _ x)) hc.1 (fun x => hf (.inl x)), ib (fun x => hb (List.mem_append_right _ x)) hc.2 (fun x => hf (.inr x))]
  | iff h a b p q hk ha hb ia ib => intro hb hc hf; rw [capT_in _ (by omega), capL_two, Bool.or_eq_false_iff] at hc; show Fo.iff _ _ = _; rw [ia (fun x => hb (List.mem_append_left _ x)) hc.1 (fun x => hf (.inl x)), ib (fun x => hb (List.mem_append_right _ x)) hc.2 (fun x => hf (.inr x))]
  | quant h a p hk ha ia =>
    intro hb hc hf
    have h1 : h.name ≠ fr := fun e => hb (by rw [e]; exact List.mem_cons_self ..)
    have h2 : fr ∉ boundN p := fun x => hb (List.mem_cons_of_mem _ x)
    have e1 : renF fr to_ (.quant h.all h.name p) = .quant h.all h.name (renF fr to_ p) := by conv => lhs; unfold renF; rw [if_neg h1]
    rw [e1]
    rw [capT_mk, if_neg (by omega), if_neg (fun x => h1 x.2), capL_one, Bool.false_or] at hc
    by_cases e : h.name = to_
    · have e2 : renF to_ fr (.quant h.all h.name (renF fr to_ p)) = .quant h.all h.name (renF fr to_ p) := by conv => lhs; unfold renF; rw [if_pos e]
      rw [e2]
      simp [hk, e] at hc
      rw [renF_same p (cap_true ha hc)]
    · have e2 : renF to_ fr (.quant h.all h.name (renF fr to_ p)) = .quant h.all h.name (renF to_ fr (renF fr to_ p)) := by conv => lhs; unfold renF; rw [if_neg e]
      rw [e2]
      simp [e] at hc
      rw [ia h2 hc (fun x => hf ⟨fun e3 => e e3.symm, x⟩)]
/-- where no quantifier has the new name nothing is caught -/
theorem cap_bound {t : Tr} {f : Fo} (h : RF t f) : to_ ∉ boundN f → capT fr to_ t false = false := by
  induction h with
  | truth h hk => intro _; rw [capT_in _ (by omega), capL_nil]
  | atom h a b p q hk hr ha hb => intro _; rw [capT_in _ (by omega), capL_two, cap_tm ha, cap_tm hb]; rfl
  | not h a p hk ha ia => intro hb; rw [capT_in _ (by omega), capL_one]; exact ia hb
  | and h a b p q hk ha hb ia ib => intro hb; rw [capT_in _ (by omega), capL_two, ia (fun x => hb (List.mem_append_left _ x)), ib (fun x => hb (List.mem_append_right _ x))]; rfl
  | or h a b p q hk ha hb ia ib => intro hb; rw [capT_in _ (by omega), capL_two, ia (fun x => hb (List.mem_append_left _ x)), ib (fun x => hb (List.mem_append_right _ x))]; rfl
  | implies h a b p q hk ha hb ia ib => intro hb; rw [capT_in _ (by omega), capL_two, ia (fun x => hb (List.mem_append_left _ x)), ib (fun x => hb (List.mem_append_right _ x))]; rfl
  | iff h a b p q hk ha hb ia ib => intro hb; rw [capT_in _ (by omega), capL_two, ia (fun x => hb (List.mem_append_left _ x)), ib (fun x => hb (List.mem_append_right _ x))]; rfl
  | quant h a p hk ha ia =>
    intro hb
    have h1 : h.name ≠ to_ := fun e => hb (by rw [e]; exact List.mem_cons_self ..)
    rw [capT_mk, if_neg (by omega)]
    split
    · rfl
    · rw [capL_one, show (false || (decide (h.k = 15) && decide (h.name = to_))) = false by simp [h1]]
      exact ia (fun x => hb (List.mem_cons_of_mem _ x))
theorem bound_ren (f : Fo) : boundN (renF fr to_ f) = boundN f := by
  induction f with
  | not f ih => exact ih
  | and l r il ir => show boundN _ ++ boundN _ = _; rw [il, ir]; rfl
  | or l r il ir => show boundN _ ++ boundN _ = _; rw [il, ir]; rfl
  | implies l r il ir => show boundN _ ++ boundN _ = _; rw [il, ir]; rfl
  | iff l r il ir => show boundN _ ++ boundN _ = _; rw [il, ir]; rfl
  | quant a n f ih =>
    show boundN (if n = fr then Fo.quant a n f else Fo.quant a n (renF fr to_ f)) = _
    split
    · rfl
    · show n :: boundN _ = _; rw [ih]; rfl
  | _ => rfl
end Rn
end Go.Proofs.Ytjbgdaojhdobkaa
