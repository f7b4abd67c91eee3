/- The ring of numbers as plain lists: what a put and a drop change, what is told one by one, how many there are. No program in it. -/
import Derived.Test.YthjcomekfiibnaaRingAll
namespace Go.Proofs.Ythjcomekfiibnaa
open Go.RowKit
set_option linter.unusedVariables false

theorem emod_inj {n a b : Int} (hn : 0 < n) (h : a % n = b % n) (h1 : a - b < n) (h2 : b - a < n) : a = b := by
  have e1 := Int.emod_add_mul_ediv a n
  have e2 := Int.emod_add_mul_ediv b n
  have e3 : a - b = n * (a / n - b / n) := by rw [Int.mul_sub]; omega
  generalize a / n - b / n = d at e3
  rcases Int.lt_trichotomy d 0 with hd | hd | hd
  · have : n * d ≤ n * (-1) := Int.mul_le_mul_of_nonneg_left (by omega) (by omega)
    omega
  · subst hd; omega
  · have : n * 1 ≤ n * d := Int.mul_le_mul_of_nonneg_left (by omega) (by omega)
    omega

theorem ringGet_put {ps : List (Int × Bool)} {low k : Int} (hok : ringOk ps low k = true) (x k' : Int) :
    ringGet (ringPut ps k x) low k' = if k' = k then (x, true) else ringGet ps low k' := by
  simp only [ringOk, Bool.and_eq_true, decide_eq_true_eq, Bool.not_eq_true'] at hok
  obtain ⟨⟨h1, h2⟩, h3⟩ := hok
  unfold ringGet ringPut
  simp only [List.length_set]
  by_cases g : low ≤ k' ∧ k' - low < ps.length
  · rw [if_pos g, if_pos g]
    have hp : 0 < (ps.length : Int) := by omega
    have m1 := Int.emod_nonneg k (show (ps.length : Int) ≠ 0 by omega)
    have m2 := Int.emod_lt_of_pos k hp
    have m3 := Int.emod_nonneg k' (show (ps.length : Int) ≠ 0 by omega)
    by_cases e : k' = k
    · subst e
      rw [if_pos rfl, List.getD_eq_getElem?_getD, List.getElem?_set_self (by omega)]
      rfl
    · rw [if_neg e]
      have hne : (k % (ps.length : Int)).toNat ≠ (k' % (ps.length : Int)).toNat := fun h => e (emod_inj hp (by omega) (by omega) (by omega))
      rw [List.getD_eq_getElem?_getD, List.getElem?_set_ne hne, ← List.getD_eq_getElem?_getD]
  · rw [if_neg g, if_neg g, if_neg (by rintro rfl; exact g ⟨h1, h2⟩)]

theorem ringGet_drop {ps : List (Int × Bool)} {low : Int} (hok : ringDrops ps low = true) (k' : Int) :
    ringGet (ringDrop ps low) (low + 1) k' = if low < k' ∧ k' - low < ps.length then ringGet ps low k' else (0, false) := by
  simp only [ringDrops, Bool.and_eq_true, decide_eq_true_eq] at hok
  have hl : 0 < ps.length := by
    rcases Nat.eq_zero_or_pos ps.length with h | h
    · have h0 := hok.1
      unfold ringGet at h0
      rw [if_neg (by omega)] at h0
      cases h0
    · exact h
  unfold ringGet ringDrop
  simp only [List.length_set]
  have hp : 0 < (ps.length : Int) := by omega
  have m1 := Int.emod_nonneg low (show (ps.length : Int) ≠ 0 by omega)
  have m2 := Int.emod_lt_of_pos low hp
  have m3 := Int.emod_nonneg k' (show (ps.length : Int) ≠ 0 by omega)
  by_cases g : low < k' ∧ k' - low < ps.length
  · rw [if_pos g, if_pos (by omega), if_pos (by omega)]
    have hne : (low % (ps.length : Int)).toNat ≠ (k' % (ps.length : Int)).toNat := fun h => by
      have := emod_inj hp (show low % (ps.length : Int) = k' % (ps.length : Int) by omega) (by omega) (by omega)
      omega
    rw [List.getD_eq_getElem?_getD, List.getElem?_set_ne hne, ← List.getD_eq_getElem?_getD]
  · rw [if_neg g]
    by_cases g2 : low + 1 ≤ k' ∧ k' - (low + 1) < ps.length
    · rw [if_pos g2]
      obtain rfl : k' = low + ps.length := by omega
      rw [Int.add_emod_right, List.getD_eq_getElem?_getD, List.getElem?_set_self (by omega)]
      rfl
    · rw [if_neg g2]

/-- What is told one by one out of a view. -/
def viewTo (g : Int → Int × Bool) : Int → Nat → List (Int × Int)
  | _, 0 => []
  | low, k + 1 => (if (g low).2 = true then [(low, (g low).1)] else []) ++ viewTo g (low + 1) k
theorem viewTo_split (g : Int → Int × Bool) (a b : Nat) : ∀ low : Int, viewTo g low (a + b) = viewTo g low a ++ viewTo g (low + a) b := by
  induction a with
  | zero => intro low; simp [viewTo]
  | succ a ih =>
    intro low
    rw [show a + 1 + b = (a + b) + 1 by omega, viewTo, viewTo, ih, List.append_assoc, show low + 1 + (a : Int) = low + ((a + 1 : Nat) : Int) by omega]
theorem viewTo_snoc (g : Int → Int × Bool) (low : Int) (k : Nat) : viewTo g low (k + 1) = viewTo g low k ++ (if (g (low + k)).2 = true then [(low + (k : Int), (g (low + k)).1)] else []) := by
  rw [viewTo_split, viewTo, viewTo, List.append_nil]
theorem ringTo_view (ps : List (Int × Bool)) (low : Int) (k : Nat) : ringTo ps low k = viewTo (ringGet ps low) low k := by
  induction k with
  | zero => rfl
  | succ k ih =>
    rw [viewTo_snoc, ← ih]
    cases h : (ringGet ps low (low + k)).2
    · rw [ringTo_no h]; simp
    · rw [ringTo_yes h]; simp
theorem viewTo_congr {g g' : Int → Int × Bool} {k : Nat} : ∀ {low : Int}, (∀ a : Int, low ≤ a → a < low + k → g a = g' a) → viewTo g low k = viewTo g' low k := by
  induction k with
  | zero => intro low _; rfl
  | succ k ih =>
    intro low h
    rw [viewTo, viewTo, h low (by omega) (by omega), ih fun a h1 h2 => h a (by omega) (by omega)]
theorem viewTo_mem {g : Int → Int × Bool} {k : Nat} : ∀ {low : Int} {p : Int × Int}, p ∈ viewTo g low k → low ≤ p.1 ∧ p.1 < low + k ∧ g p.1 = (p.2, true) := by
  induction k with
  | zero => intro low p h; simp [viewTo] at h
  | succ k ih =>
    intro low p h
    rw [viewTo, List.mem_append] at h
    rcases h with h | h
    · split at h
      · rename_i hg
        rw [List.mem_singleton] at h
        subst h
        exact ⟨by simp, by simp; omega, by rw [← hg]⟩
      · cases h
    · have := ih h
      exact ⟨by omega, by omega, this.2.2⟩
theorem viewTo_length (g : Int → Int × Bool) (k : Nat) : ∀ low : Int, (viewTo g low k).length ≤ k := by
  induction k with
  | zero => intro low; simp [viewTo]
  | succ k ih =>
    intro low
    rw [viewTo, List.length_append]
    have := ih (low + 1)
    split <;> simp <;> omega
/-- A place of the window parts what is told. -/
theorem viewTo_part (g : Int → Int × Bool) (low at_ : Int) (n : Nat) (h1 : low ≤ at_) (h2 : at_ - low < n) :
    viewTo g low n = viewTo g low (at_ - low).toNat ++ ((if (g at_).2 = true then [(at_, (g at_).1)] else []) ++ viewTo g (at_ + 1) (n - (at_ - low).toNat - 1)) := by
  obtain ⟨j, hj⟩ : ∃ j : Nat, at_ = low + j := ⟨(at_ - low).toNat, by omega⟩
  have e1 : (at_ - low).toNat = j := by omega
  rw [e1]
  have e2 : n = j + ((n - j - 1) + 1) := by omega
  rw [show viewTo g low n = viewTo g low (j + ((n - j - 1) + 1)) from congrArg _ e2, viewTo_split, viewTo, hj]

/-- The document's row: a thing is put ahead of the first one that is not ahead of it. -/
def refPut (l : List (Int × Int)) (at_ x : Int) : List (Int × Int) := l.takeWhile (fun p => decide (p.1 < at_)) ++ (at_, x) :: l.dropWhile (fun p => decide (p.1 < at_))
def refGet (l : List (Int × Int)) (at_ : Int) : Int × Bool := match l.find? (fun p => p.1 == at_) with | some p => (p.2, true) | none => (0, false)
def refHas (l : List (Int × Int)) (at_ : Int) : Bool := (l.find? (fun p => p.1 == at_)).isSome

theorem span_of {l l' : List (Int × Int)} {at_ : Int} (h1 : ∀ p ∈ l, p.1 < at_) (h2 : ∀ p ∈ l', at_ < p.1) :
    (l ++ l').takeWhile (fun p => decide (p.1 < at_)) = l ∧ (l ++ l').dropWhile (fun p => decide (p.1 < at_)) = l' := by
  induction l with
  | nil =>
    cases l' with
    | nil => simp
    | cons q l' =>
      have := h2 q (by simp)
      simp only [List.nil_append, List.takeWhile_cons, List.dropWhile_cons]
      rw [decide_eq_false (by omega)]
      simp
  | cons q l ih =>
    have := h1 q (by simp)
    have ih := ih (fun p hp => h1 p (by simp [hp]))
    simp only [List.cons_append, List.takeWhile_cons, List.dropWhile_cons]
    rw [decide_eq_true (by omega)]
    simp [ih.1, ih.2]

theorem view_put {g : Int → Int × Bool} {low at_ x : Int} {n : Nat} (h1 : low ≤ at_) (h2 : at_ - low < n) (hg : (g at_).2 = false) :
    viewTo (fun k => if k = at_ then (x, true) else g k) low n = refPut (viewTo g low n) at_ x := by
  have hp := viewTo_part g low at_ n h1 h2
  rw [hg] at hp
  simp only [Bool.false_eq_true, if_false, List.nil_append] at hp
  have hs := span_of (l := viewTo g low (at_ - low).toNat) (l' := viewTo g (at_ + 1) (n - (at_ - low).toNat - 1)) (at_ := at_)
    (fun p hp => by have := viewTo_mem hp; omega) (fun p hp => by have := viewTo_mem hp; omega)
  unfold refPut
  rw [hp, hs.1, hs.2, viewTo_part _ low at_ n h1 h2]
  simp only [if_true, List.cons_append, List.nil_append]
  rw [viewTo_congr (g' := g) (fun a ha hb => if_neg (by omega)), viewTo_congr (low := at_ + 1) (g' := g) (fun a ha hb => if_neg (by omega))]
theorem refPut_length (l : List (Int × Int)) (at_ x : Int) : (refPut l at_ x).length = l.length + 1 := by
  have h := List.takeWhile_append_dropWhile (p := fun p : Int × Int => decide (p.1 < at_)) (l := l)
  have h2 := congrArg List.length h
  rw [List.length_append] at h2
  simp only [refPut, List.length_append, List.length_cons]
  omega
theorem find_none {l : List (Int × Int)} {at_ : Int} (h : ∀ p ∈ l, p.1 ≠ at_) : l.find? (fun p => p.1 == at_) = none := by
  rw [List.find?_eq_none]
  intro p hp
  simpa using h p hp
theorem view_get {g : Int → Int × Bool} {low at_ : Int} {n : Nat} (hout : ∀ k, ¬ (low ≤ k ∧ k - low < n) → g k = (0, false)) (hz : (g at_).2 = false → (g at_).1 = 0) :
    refGet (viewTo g low n) at_ = g at_ ∧ refHas (viewTo g low n) at_ = (g at_).2 := by
  unfold refGet refHas
  by_cases h : low ≤ at_ ∧ at_ - low < n
  · rw [viewTo_part g low at_ n h.1 h.2, List.find?_append, find_none (fun p hp => by have := viewTo_mem hp; omega)]
    cases hg : (g at_).2
    · simp only [Bool.false_eq_true, if_false, List.nil_append, Option.none_or]
      rw [find_none (fun p hp => by have := viewTo_mem hp; omega)]
      exact ⟨by rw [← hz hg, ← hg], rfl⟩
    · simp only [if_true, Option.none_or, List.cons_append, List.find?_cons, beq_self_eq_true]
      exact ⟨by rw [← hg], rfl⟩
  · rw [find_none (fun p hp => by have := viewTo_mem hp; omega), hout _ h]
    exact ⟨rfl, rfl⟩
theorem view_drop {g g' : Int → Int × Bool} {low : Int} {n : Nat} (hn : 0 < n) (hg : (g low).2 = true) (hg' : ∀ k, g' k = if low < k ∧ k - low < n then g k else (0, false)) :
    viewTo g low n = (low, (g low).1) :: viewTo g' (low + 1) n := by
  obtain ⟨m, rfl⟩ : ∃ m, n = m + 1 := ⟨n - 1, by omega⟩
  rw [viewTo, if_pos hg, viewTo_snoc]
  have e : (g' (low + 1 + (m : Int))).2 = false := by rw [hg', if_neg (by omega)]
  rw [e]
  simp only [Bool.false_eq_true, if_false, List.append_nil, List.cons_append, List.nil_append]
  exact congrArg _ (viewTo_congr (g := g') (g' := g) (k := m) (low := low + 1) fun a h1 h2 => by rw [hg', if_pos (by omega)]).symm
theorem viewTo_sorted (g : Int → Int × Bool) (k : Nat) : ∀ low : Int, (viewTo g low k).Pairwise (fun p q => p.1 < q.1) := by
  induction k with
  | zero => intro low; exact List.Pairwise.nil
  | succ k ih =>
    intro low
    rw [viewTo, List.pairwise_append]
    refine ⟨by split <;> simp, ih _, fun p hp q hq => ?_⟩
    have := viewTo_mem hq
    split at hp
    · rw [List.mem_singleton] at hp; subst hp; show low < q.1; omega
    · cases hp
theorem tells_view {w : World} {R B n : Nat} {low : Int} {ps : List (Int × Bool)} (h : RingAt w R B n low ps) :
    ∀ K, K < (ringTo ps low n).length → low ≤ ((ringTo ps low n).getD K (0, 0)).1 ∧ ((ringTo ps low n).getD K (0, 0)).1 < low + n ∧ ∀ J, K = J + 1 → ((ringTo ps low n).getD J (0, 0)).1 < ((ringTo ps low n).getD K (0, 0)).1 := by
  rw [ringTo_view]
  intro K hK
  have hm := viewTo_mem (List.getElem_mem hK)
  rw [List.getD_eq_getElem?_getD, List.getElem?_eq_getElem hK]
  refine ⟨hm.1, hm.2.1, ?_⟩
  rintro J rfl
  rw [List.getD_eq_getElem?_getD, List.getElem?_eq_getElem (show J < _ by omega)]
  exact List.pairwise_iff_getElem.1 (viewTo_sorted (ringGet ps low) n low) J (J + 1) (by omega) hK (by omega)
theorem view_empty {g : Int → Int × Bool} {k : Nat} : ∀ {low : Int}, (∀ a, low ≤ a → a < low + k → (g a).2 = false) → viewTo g low k = [] := by
  induction k with
  | zero => intro low _; rfl
  | succ k ih =>
    intro low h
    rw [viewTo, h low (by omega) (by omega), ih fun a h1 h2 => h a (by omega) (by omega)]
    simp
end Go.Proofs.Ythjcomekfiibnaa
