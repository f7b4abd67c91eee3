/- Chapter 6: what a merge makes (no program in it). -/
import Derived.Test.YtmiijnemacgbiaaTupC
namespace Go.Proofs.Ytmiijnemacgbiaa
open Go.RowKit
set_option linter.unusedVariables false
set_option linter.unusedSimpArgs false

def headI (l : List Int) : Int := l.getD 0 0
/-- Of the first I rows the one whose first thing goes next; -1: nothing is left. -/
def bestTo (p : Int → Int → Bool) (ls : List (List Int)) : Nat → Int
  | 0 => -1
  | I + 1 =>
    let r := ls.getD I []
    let b := bestTo p ls I
    if r.length = 0 then b else if b < 0 then I else if p (headI r) (headI (ls.getD b.toNat [])) = true then I else b
def bestI (p : Int → Int → Bool) (ls : List (List Int)) : Int := bestTo p ls ls.length
theorem bestTo_is (p : Int → Int → Bool) (ls : List (List Int)) : ∀ I, bestTo p ls I = -1 ∨ ∃ B : Nat, B < I ∧ bestTo p ls I = B ∧ 0 < (ls.getD B []).length := by
  intro I
  induction I with
  | zero => exact .inl rfl
  | succ I ih =>
    have ih' : bestTo p ls I = -1 ∨ ∃ B : Nat, B < I + 1 ∧ bestTo p ls I = B ∧ 0 < (ls.getD B []).length := by
      rcases ih with h | ⟨B, h1, h2, h3⟩
      · exact .inl h
      · exact .inr ⟨B, by omega, h2, h3⟩
    simp only [bestTo]
    split
    · exact ih'
    · rename_i h
      split
      · exact .inr ⟨I, by omega, rfl, by omega⟩
      · split
        · exact .inr ⟨I, by omega, rfl, by omega⟩
        · exact ih'
/-- What is left when the first thing of a row is gone. -/
def leftI (ls : List (List Int)) (B : Nat) : List (List Int) := ls.set B ((ls.getD B []).drop 1)
def mergeL (p : Int → Int → Bool) : Nat → List (List Int) → List Int
  | 0, _ => []
  | m + 1, ls => if bestI p ls < 0 then [] else headI (ls.getD (bestI p ls).toNat []) :: mergeL p m (leftI ls (bestI p ls).toNat)
def sumL (ls : List (List Int)) : Nat := (ls.map List.length).sum
theorem sum_set {α : Type} (f : α → Nat) (l : List α) (i : Nat) (x : α) (h : i < l.length) : ((l.set i x).map f).sum + f l[i] = (l.map f).sum + f x := by
  induction l generalizing i with
  | nil => simp at h
  | cons a r ih =>
    cases i with
    | zero => simp; omega
    | succ i =>
      have := ih i (by simpa using h)
      simp only [List.set_cons_succ, List.map_cons, List.sum_cons, List.getElem_cons_succ]
      omega
theorem sumL_left {ls : List (List Int)} {B : Nat} (h : 0 < (ls.getD B []).length) : sumL (leftI ls B) + 1 = sumL ls := by
  have hB : B < ls.length := by
    rcases Nat.lt_or_ge B ls.length with h1 | h1
    · exact h1
    · rw [List.getD_eq_getElem?_getD, List.getElem?_eq_none h1] at h
      simp at h
  have e : ls.getD B [] = ls[B] := by rw [List.getD_eq_getElem?_getD, List.getElem?_eq_getElem hB]; rfl
  have := sum_set List.length ls B ((ls.getD B []).drop 1) hB
  rw [List.length_drop] at this
  unfold sumL leftI
  rw [e] at this h ⊢
  omega
theorem best_some {p : Int → Int → Bool} {ls : List (List Int)} (h : ¬ bestI p ls < 0) : ∃ B : Nat, B < ls.length ∧ bestI p ls = B ∧ 0 < (ls.getD B []).length := by
  rcases bestTo_is p ls ls.length with h1 | h1
  · exact absurd (show bestI p ls < 0 by unfold bestI; omega) h
  · exact h1
/-- The whole merge. -/
def mergeA (p : Int → Int → Bool) (ls : List (List Int)) : List Int := mergeL p (sumL ls) ls
theorem mergeL_enough (p : Int → Int → Bool) : ∀ (m : Nat) (ls : List (List Int)), sumL ls ≤ m → mergeL p m ls = mergeA p ls := by
  have key : ∀ (m : Nat) (ls : List (List Int)), sumL ls ≤ m → mergeL p m ls = mergeL p (m + 1) ls := by
    intro m
    induction m with
    | zero =>
      intro ls h
      show [] = if bestI p ls < 0 then [] else _
      by_cases hb : bestI p ls < 0
      · rw [if_pos hb]
      · obtain ⟨B, _, _, h3⟩ := best_some hb
        have := sumL_left h3
        omega
    | succ m ih =>
      intro ls h
      show (if bestI p ls < 0 then [] else _ :: mergeL p m _) = if bestI p ls < 0 then [] else _ :: mergeL p (m + 1) _
      by_cases hb : bestI p ls < 0
      · rw [if_pos hb, if_pos hb]
      · obtain ⟨B, _, h2, h3⟩ := best_some hb
        rw [if_neg hb, if_neg hb, ih]
        rw [h2, Int.toNat_natCast]
        have := sumL_left h3
        omega
  intro m ls h
  unfold mergeA
  obtain ⟨k, rfl⟩ : ∃ k, m = sumL ls + k := ⟨m - sumL ls, by omega⟩
  clear h
  induction k with
  | zero => rfl
  | succ k ih => exact (key (sumL ls + k) ls (Nat.le_add_right _ _)).symm.trans ih
theorem mergeA_end {p : Int → Int → Bool} {ls : List (List Int)} (h : bestI p ls < 0) : mergeA p ls = [] := by
  unfold mergeA
  cases sumL ls with
  | zero => rfl
  | succ m => show (if bestI p ls < 0 then [] else _) = _; rw [if_pos h]
theorem mergeA_step {p : Int → Int → Bool} {ls : List (List Int)} {B : Nat} (h : bestI p ls = B) (h3 : 0 < (ls.getD B []).length) : mergeA p ls = headI (ls.getD B []) :: mergeA p (leftI ls B) := by
  have hs := sumL_left h3
  have : mergeA p ls = mergeL p (sumL (leftI ls B) + 1) ls := by unfold mergeA; rw [hs]
  rw [this]
  show (if bestI p ls < 0 then [] else headI (ls.getD (bestI p ls).toNat []) :: mergeL p (sumL (leftI ls B)) (leftI ls (bestI p ls).toNat)) = _
  rw [if_neg (by omega), h, Int.toNat_natCast]
  rfl
theorem mergeA_length {p : Int → Int → Bool} : ∀ (m : Nat) (ls : List (List Int)), sumL ls = m → (mergeA p ls).length = m := by
  intro m
  induction m with
  | zero => intro ls h; unfold mergeA; rw [h]; rfl
  | succ m ih =>
    intro ls h
    by_cases hb : bestI p ls < 0
    · exfalso
      -- some row is not empty
      have hall : ∀ I, I ≤ ls.length → bestTo p ls I < 0 → ∀ i, i < I → (ls.getD i []).length = 0 := by
        intro I
        induction I with
        | zero => intro _ _ i hi; omega
        | succ I ih2 =>
          intro hI hneg i hi
          simp only [bestTo] at hneg
          split at hneg
          · rename_i h0
            by_cases e : i = I
            · subst e; exact h0
            · exact ih2 (by omega) hneg i (by omega)
          · split at hneg
            · omega
            · split at hneg
              · omega
              · omega
      have hz := hall ls.length (Nat.le_refl _) hb
      have : sumL ls = 0 := by
        unfold sumL
        have : ls.map List.length = List.replicate ls.length 0 := by
          refine List.ext_getElem (by simp) fun i h1 h2 => ?_
          have h3 : i < ls.length := by simpa using h1
          have := hz i h3
          rw [List.getD_eq_getElem?_getD, List.getElem?_eq_getElem h3] at this
          simpa using this
        rw [this]
        simp
      omega
    · obtain ⟨B, _, h2, h3⟩ := best_some hb
      rw [mergeA_step h2 h3, List.length_cons, ih _ (by have := sumL_left h3; omega)]
end Go.Proofs.Ytmiijnemacgbiaa
