/- Chapter 6: what a merge of rows in order is (no program in it). -/
import Derived.Test.YtmiijnemacgbiaaTupW
namespace Go.Proofs.Ytmiijnemacgbiaa
open Go.RowKit
set_option linter.unusedVariables false
set_option linter.unusedSimpArgs false

/-- The best of the first I: none ahead of it is as good, none behind it is better. -/
theorem bestTo_least (ls : List (List Int)) : ∀ (I B : Nat), bestTo pLess ls I = B → ∀ k, k < I → 0 < (ls.getD k []).length → headI (ls.getD B []) / 8 ≤ headI (ls.getD k []) / 8 ∧ (k < B → headI (ls.getD B []) / 8 < headI (ls.getD k []) / 8) := by
  intro I
  induction I with
  | zero => intro B _ k hk; omega
  | succ I ih =>
    intro B hB k hk hne
    simp only [bestTo] at hB
    have his := bestTo_is pLess ls I
    split at hB
    · rename_i h0
      by_cases e : k = I
      · subst e; omega
      · exact ih B hB k (by omega) hne
    · rename_i h0
      split at hB
      · rename_i hneg
        obtain rfl : I = B := by omega
        by_cases e : k = I
        · subst e; exact ⟨Int.le_refl _, fun h => by omega⟩
        · exfalso
          -- nothing was left ahead of it
          have hall : ∀ J, J ≤ I → bestTo pLess ls J < 0 → ∀ i, i < J → (ls.getD i []).length = 0 := by
            intro J
            induction J with
            | zero => intro _ _ i hi; omega
            | succ J ih2 =>
              intro hJ hn i hi
              simp only [bestTo] at hn
              split at hn
              · rename_i hz
                by_cases e2 : i = J
                · subst e2; exact hz
                · exact ih2 (by omega) hn i (by omega)
              · split at hn
                · omega
                · split at hn
                  · omega
                  · omega
          have := hall I (Nat.le_refl _) hneg k (by omega)
          omega
      · rename_i hneg
        rcases his with h | ⟨C, hC1, hC2, hC3⟩
        · omega
        · rw [hC2, Int.toNat_natCast] at hB
          split at hB
          · rename_i hp
            obtain rfl : I = B := by omega
            have hp2 : headI (ls.getD I []) / 8 < headI (ls.getD C []) / 8 := by simpa [pLess] using hp
            by_cases e : k = I
            · subst e; exact ⟨Int.le_refl _, fun h => by omega⟩
            · have := ih C hC2 k (by omega) hne
              exact ⟨by omega, fun _ => by omega⟩
          · rename_i hp
            obtain rfl : C = B := by omega
            have hp2 : ¬ headI (ls.getD I []) / 8 < headI (ls.getD C []) / 8 := by simpa [pLess] using hp
            by_cases e : k = I
            · subst e; exact ⟨by omega, fun h => by omega⟩
            · exact ih C hC2 k (by omega) hne
/-- Rows of which so much is gone. -/
def leftOf (ls : List (List Int)) (f : Nat → Nat) : List (List Int) := (List.range ls.length).map fun k => (ls.getD k []).drop (f k)
theorem leftOf_getD (ls : List (List Int)) (f : Nat → Nat) (k : Nat) (hk : k < ls.length) : (leftOf ls f).getD k [] = (ls.getD k []).drop (f k) := by
  unfold leftOf
  rw [List.getD_eq_getElem?_getD, List.getElem?_map, List.getElem?_range hk]
  rfl
theorem leftOf_length (ls : List (List Int)) (f : Nat → Nat) : (leftOf ls f).length = ls.length := by simp [leftOf]
theorem leftOf_zero (ls : List (List Int)) : leftOf ls (fun _ => 0) = ls := by
  refine List.ext_getElem (leftOf_length _ _) fun k h1 h2 => ?_
  simp [leftOf, List.getD_eq_getElem?_getD, h2]
def updN (f : Nat → Nat) (a v : Nat) : Nat → Nat := fun i => if i = a then v else f i
theorem leftOf_step (ls : List (List Int)) (f : Nat → Nat) (B : Nat) (hB : B < ls.length) : leftI (leftOf ls f) B = leftOf ls (updN f B (f B + 1)) := by
  have e1 : leftI (leftOf ls f) B = (leftOf ls f).set B ((ls.getD B []).drop (f B + 1)) := by
    unfold leftI
    rw [leftOf_getD ls f B hB, List.drop_drop]
  rw [e1]
  refine List.ext_getElem (by simp [leftOf]) fun k h1 h2 => ?_
  have hk : k < ls.length := by simpa [leftOf] using h2
  rw [List.getElem_set]
  by_cases e : B = k
  · subst e
    simp [leftOf, updN]
  · rw [if_neg e]
    simp [leftOf, updN, Ne.symm e]
theorem headI_drop (l : List Int) (m : Nat) (h : m < l.length) : headI (l.drop m) = l[m] := by
  unfold headI
  rw [List.drop_eq_getElem_cons h]
  rfl
/-- Rows in order. -/
def Rising (ls : List (List Int)) : Prop := ∀ l ∈ ls, l.Pairwise (fun a b => a / 8 ≤ b / 8)
/-- While the law counts: what is left, and that nothing left is ahead of what came last. -/
structure OInv (ls : List (List Int)) (all : List Int) (I : Nat) (f : Nat → Nat) : Prop where
  rest : mergeA pLess (leftOf ls f) = all.drop I
  le : ∀ k, k < ls.length → f k ≤ (ls.getD k []).length
  prev : 0 < I → ∀ k, k < ls.length → ∀ z ∈ (ls.getD k []).drop (f k), all.getD (I - 1) 0 / 8 ≤ z / 8
theorem OInv.start (ls : List (List Int)) : OInv ls (mergeA pLess ls) 0 (fun _ => 0) := ⟨by rw [leftOf_zero]; rfl, fun k hk => Nat.zero_le _, fun h => by omega⟩
/-- The next one: which row it is of; that the rows ahead of it differ there; that it is not ahead of the one that came last. -/
theorem OInv.next {ls : List (List Int)} {all : List Int} {I : Nat} {f : Nat → Nat} (h : OInv ls all I f) (hI : I < all.length) (hr : Rising ls) :
    ∃ B, B < ls.length ∧ f B < (ls.getD B []).length ∧ (ls.getD B []).getD (f B) 0 = all.getD I 0 ∧ (∀ k, k < B → f k < (ls.getD k []).length → (ls.getD k []).getD (f k) 0 ≠ all.getD I 0) ∧ (0 < I → pLess (all.getD I 0) (all.getD (I - 1) 0) = false) ∧ OInv ls all (I + 1) (updN f B (f B + 1)) := by
  have hne : ¬ bestI pLess (leftOf ls f) < 0 := by
    intro hneg
    have := mergeA_end hneg
    rw [h.rest] at this
    have := congrArg List.length this
    rw [List.length_drop] at this
    simp at this
    omega
  obtain ⟨B, hB1, hB2, hB3⟩ := best_some hne
  rw [leftOf_length] at hB1
  have hstep := mergeA_step hB2 hB3
  rw [leftOf_getD ls f B hB1] at hstep hB3
  rw [List.length_drop] at hB3
  have hfB : f B < (ls.getD B []).length := by omega
  have hhd := headI_drop (ls.getD B []) (f B) hfB
  have hgd : (ls.getD B []).getD (f B) 0 = (ls.getD B [])[f B] := by rw [List.getD_eq_getElem?_getD, List.getElem?_eq_getElem hfB]; rfl
  rw [h.rest, leftOf_step ls f B hB1, List.drop_eq_getElem_cons hI] at hstep
  injection hstep with hs1 hs2
  have hall : all.getD I 0 = all[I] := by rw [List.getD_eq_getElem?_getD, List.getElem?_eq_getElem hI]; rfl
  have hleast := bestTo_least (leftOf ls f) (leftOf ls f).length B hB2
  rw [leftOf_length] at hleast
  refine ⟨B, hB1, hfB, by rw [hgd, hall, hs1, hhd], fun k hk hfk he => ?_, fun h0 => ?_, ⟨hs2.symm, fun k hk => ?_, fun _ k hk z hz => ?_⟩⟩
  · have hk2 : k < ls.length := by omega
    have hl := (hleast k hk2 (by rw [leftOf_getD ls f k hk2, List.length_drop]; omega)).2 hk
    rw [leftOf_getD ls f k hk2, leftOf_getD ls f B hB1, hhd, headI_drop _ _ hfk] at hl
    have e1 : (ls.getD k []).getD (f k) 0 = (ls.getD k [])[f k] := by rw [List.getD_eq_getElem?_getD, List.getElem?_eq_getElem hfk]; rfl
    rw [e1, hall, hs1, hhd] at he
    rw [he] at hl
    omega
  · have := h.prev h0 B hB1 (ls.getD B [])[f B] (by rw [List.drop_eq_getElem_cons hfB]; exact List.mem_cons_self ..)
    rw [hall, hs1, hhd]
    simp only [pLess, decide_eq_false_iff_not]
    omega
  · unfold updN
    split
    · rename_i e; subst e; omega
    · exact h.le k hk
  · rw [Nat.add_sub_cancel, hall, hs1, hhd]
    by_cases e : k = B
    · subst e
      simp only [updN, if_true] at hz
      have hmem : ls.getD k [] ∈ ls := by rw [List.getD_eq_getElem?_getD, List.getElem?_eq_getElem hk]; exact List.getElem_mem hk
      have hp := hr _ hmem
      have hp2 := hp.sublist (List.drop_sublist (f k) _)
      rw [List.drop_eq_getElem_cons hfB] at hp2
      exact (List.pairwise_cons.1 hp2).1 z hz
    · simp only [updN, if_neg e] at hz
      have hfk : f k < (ls.getD k []).length := by
        have := List.length_pos_of_mem hz
        rw [List.length_drop] at this
        omega
      have hl := (hleast k hk (by rw [leftOf_getD ls f k hk, List.length_drop]; omega)).1
      rw [leftOf_getD ls f k hk, leftOf_getD ls f B hB1, hhd, headI_drop _ _ hfk] at hl
      have hmem : ls.getD k [] ∈ ls := by rw [List.getD_eq_getElem?_getD, List.getElem?_eq_getElem hk]; exact List.getElem_mem hk
      have hp2 := (hr _ hmem).sublist (List.drop_sublist (f k) _)
      rw [List.drop_eq_getElem_cons hfk] at hp2 hz
      rcases List.mem_cons.1 hz with rfl | hz
      · exact hl
      · have := (List.pairwise_cons.1 hp2).1 z hz
        omega
/-- The law's own rows. -/
def accL (i : Nat) : Int → List Int → List Int
  | _, [] => []
  | n, z :: zs => (n + z % 32 * 8 + i % 8) :: accL i (n + z % 32 * 8) zs
theorem accL_length (i : Nat) : ∀ (l : List Int) (n : Int), (accL i n l).length = l.length := by
  intro l
  induction l with
  | nil => intro n; rfl
  | cons z zs ih => intro n; simp [accL, ih]
theorem accL_rising (i : Nat) : ∀ (l : List Int) (n : Int), (∀ z ∈ accL i n l, (n + i % 8) / 8 ≤ z / 8) ∧ (accL i n l).Pairwise (fun a b => a / 8 ≤ b / 8) := by
  intro l
  induction l with
  | nil => intro n; exact ⟨fun z hz => (by cases hz), List.Pairwise.nil⟩
  | cons z zs ih =>
    intro n
    obtain ⟨h1, h2⟩ := ih (n + z % 32 * 8)
    have hz : 0 ≤ z % 32 := Int.emod_nonneg _ (by decide)
    refine ⟨fun y hy => ?_, List.pairwise_cons.2 ⟨h1, h2⟩⟩
    rcases List.mem_cons.1 hy with rfl | hy
    · omega
    · have := h1 y hy
      omega
theorem accL_bound (i : Nat) : ∀ (l : List Int) (n : Int), 0 ≤ n → ∀ z ∈ accL i n l, 0 ≤ z ∧ z ≤ n + l.length * 248 + 7 := by
  intro l
  induction l with
  | nil => intro n _ z hz; cases hz
  | cons y ys ih =>
    intro n hn z hz
    have h1 : 0 ≤ y % 32 := Int.emod_nonneg _ (by decide)
    have h2 : y % 32 < 32 := Int.emod_lt_of_pos _ (by decide)
    rcases List.mem_cons.1 hz with rfl | hz
    · simp only [List.length_cons]
      omega
    · have := ih (n + y % 32 * 8) (by omega) z hz
      simp only [List.length_cons]
      omega
end Go.Proofs.Ytmiijnemacgbiaa
