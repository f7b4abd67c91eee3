/- Chapter 19: what a ring holds, by numbers (no program in it). -/
import Derived.Test.YtibbnikfecilhaaRgC3
import Derived.Test.YtibbnikfecilhaaRgO3
namespace Go.Proofs.Ytibbnikfecilhaa
open Go.RowKit
set_option linter.unusedVariables false
set_option linter.unusedSimpArgs false

def upd {β : Type} (f : Nat → β) (i : Nat) (v : β) : Nat → β := fun j => if j = i then v else f j
theorem upd_same {β : Type} (f : Nat → β) (i : Nat) (v : β) : upd f i v i = v := if_pos rfl
theorem upd_other {β : Type} (f : Nat → β) {i j : Nat} (v : β) (h : j ≠ i) : upd f i v j = f j := if_neg h
/-- The number that lies at a place of a ring. -/
def numAt (low n i : Nat) : Nat := if low % n ≤ i then low + (i - low % n) else low + (i + n - low % n)
theorem numAt_spec {low n i : Nat} (hi : i < n) : low ≤ numAt low n i ∧ numAt low n i < low + n ∧ numAt low n i % n = i := by
  have hn : 0 < n := by omega
  have ha : low % n < n := Nat.mod_lt _ hn
  have hl := Nat.div_add_mod low n
  unfold numAt
  split
  · rename_i h
    refine ⟨by omega, by omega, ?_⟩
    rw [show low + (i - low % n) = i + n * (low / n) by omega, Nat.add_mul_mod_self_left, Nat.mod_eq_of_lt hi]
  · rename_i h
    refine ⟨by omega, by omega, ?_⟩
    rw [show low + (i + n - low % n) = i + n * (low / n + 1) by rw [Nat.mul_succ]; omega, Nat.add_mul_mod_self_left, Nat.mod_eq_of_lt hi]
theorem num_uniq {low n p q : Nat} (h1 : low ≤ p) (h2 : p < low + n) (h3 : low ≤ q) (h4 : q < low + n) (h : p % n = q % n) : p = q := by
  have hn : 0 < n := by omega
  have a1 := Nat.div_add_mod p n
  have a2 := Nat.div_add_mod q n
  rcases Nat.lt_trichotomy (p / n) (q / n) with hd | hd | hd
  · have := Nat.mul_le_mul_left n hd
    rw [Nat.mul_succ] at this
    omega
  · rw [hd] at a1; omega
  · have := Nat.mul_le_mul_left n hd
    rw [Nat.mul_succ] at this
    omega
theorem numAt_of {low n p : Nat} (h1 : low ≤ p) (h2 : p < low + n) : numAt low n (p % n) = p := by
  have hn : 0 < n := by omega
  obtain ⟨g1, g2, g3⟩ := numAt_spec (low := low) (Nat.mod_lt p hn)
  exact num_uniq g1 g2 h1 h2 g3
def entry {X : Type} (z : X) : Option X → X × Bool
  | some x => (x, true)
  | none => (z, false)
def ringOf {X : Type} (z : X) (low n : Nat) (f : Nat → Option X) : List (X × Bool) := (List.range n).map fun i => entry z (f (numAt low n i))
section
variable {X : Type} (z : X) (low n : Nat) (f : Nat → Option X)
theorem ringOf_length : (ringOf z low n f).length = n := by simp [ringOf]
theorem ringOf_get {i : Nat} (hi : i < n) : (ringOf z low n f)[i]? = some (entry z (f (numAt low n i))) := by simp [ringOf, hi]
theorem ringOf_at {p : Nat} (h1 : low ≤ p) (h2 : p < low + n) : (ringOf z low n f).getD (p % n) (z, false) = entry z (f p) := by
  have hn : 0 < n := by omega
  rw [List.getD_eq_getElem?_getD, ringOf_get z low n f (Nat.mod_lt _ hn), numAt_of h1 h2]
  rfl
theorem ringOf_put {p : Nat} (h1 : low ≤ p) (h2 : p < low + n) (x : X) : (ringOf z low n f).set (p % n) (x, true) = ringOf z low n (upd f p (some x)) := by
  have hn : 0 < n := by omega
  refine List.ext_getElem? fun i => ?_
  by_cases hi : i < n
  · rw [ringOf_get _ _ _ _ hi, List.getElem?_set]
    by_cases e : p % n = i
    · rw [if_pos e, if_pos (by rw [ringOf_length]; omega), ← e, numAt_of h1 h2, upd_same]
      rfl
    · rw [if_neg e, ringOf_get _ _ _ _ hi, upd_other]
      intro h
      obtain ⟨_, _, g3⟩ := numAt_spec (low := low) hi
      rw [h] at g3
      exact e g3
  · rw [List.getElem?_eq_none (by rw [List.length_set, ringOf_length]; omega), List.getElem?_eq_none (by rw [ringOf_length]; omega)]
theorem ringOf_drop (hn : 0 < n) (h : f (low + n) = none) : (ringOf z low n f).set (low % n) (z, false) = ringOf z (low + 1) n f := by
  refine List.ext_getElem? fun i => ?_
  by_cases hi : i < n
  · rw [ringOf_get _ _ _ _ hi, List.getElem?_set]
    obtain ⟨g1, g2, g3⟩ := numAt_spec (low := low + 1) hi
    by_cases e : low % n = i
    · rw [if_pos e, if_pos (by rw [ringOf_length]; omega)]
      have : numAt (low + 1) n i = low + n := num_uniq (low := low + 1) g1 g2 (by omega) (by omega) (by rw [g3, Nat.add_mod_right]; exact e.symm)
      rw [this, h]
      rfl
    · rw [if_neg e, ringOf_get _ _ _ _ hi]
      obtain ⟨k1, k2, k3⟩ := numAt_spec (low := low) hi
      have hne : numAt low n i ≠ low := by intro h; rw [h] at k3; exact e k3
      have : numAt (low + 1) n i = numAt low n i := num_uniq (low := low + 1) g1 g2 (by omega) (by omega) (by rw [g3, k3])
      rw [this]
  · rw [List.getElem?_eq_none (by rw [List.length_set, ringOf_length]; omega), List.getElem?_eq_none (by rw [ringOf_length]; omega)]
theorem ringOf_new : List.replicate n (z, false) = ringOf z 0 n fun _ => none := by
  refine List.ext_getElem? fun i => ?_
  by_cases hi : i < n
  · rw [ringOf_get _ _ _ _ hi, List.getElem?_replicate, if_pos hi]; rfl
  · rw [List.getElem?_eq_none (by simp; omega), List.getElem?_eq_none (by rw [ringOf_length]; omega)]
end
theorem mod_toNat (p n : Nat) : ((p : Int) % (n : Int)).toNat = p % n := by
  rw [← Int.natCast_emod]; exact Int.toNat_natCast _
/-- What is got of such a ring. -/
theorem cget_of {low n : Nat} {f : Nat → Option CmdV} (k : Int) : cget (ringOf CmdV.zero low n f) low k = if (low : Int) ≤ k ∧ k < low + n then entry CmdV.zero (f k.toNat) else (CmdV.zero, false) := by
  unfold cget
  rw [ringOf_length]
  by_cases h : (low : Int) ≤ k ∧ k < low + n
  · obtain ⟨p, rfl⟩ : ∃ p : Nat, k = p := ⟨k.toNat, by omega⟩
    rw [if_pos (by omega), if_pos h, mod_toNat, ringOf_at _ _ _ _ (by omega) (by omega), Int.toNat_natCast]
  · rw [if_neg (by omega), if_neg h]
theorem oget_of {low n : Nat} {f : Nat → Option OutV} (k : Int) : oget (ringOf OutV.zero low n f) low k = if (low : Int) ≤ k ∧ k < low + n then entry OutV.zero (f k.toNat) else (OutV.zero, false) := by
  unfold oget
  rw [ringOf_length]
  by_cases h : (low : Int) ≤ k ∧ k < low + n
  · obtain ⟨p, rfl⟩ : ∃ p : Nat, k = p := ⟨k.toNat, by omega⟩
    rw [if_pos (by omega), if_pos h, mod_toNat, ringOf_at _ _ _ _ (by omega) (by omega), Int.toNat_natCast]
  · rw [if_neg (by omega), if_neg h]
theorem cok_of {low n : Nat} {f : Nat → Option CmdV} (k : Int) : cok (ringOf CmdV.zero low n f) low k = decide ((low : Int) ≤ k ∧ k < low + n ∧ f k.toNat = none) := by
  unfold cok
  rw [ringOf_length]
  by_cases h : (low : Int) ≤ k ∧ k < low + n
  · obtain ⟨p, rfl⟩ : ∃ p : Nat, k = p := ⟨k.toNat, by omega⟩
    rw [mod_toNat, ringOf_at _ _ _ _ (by omega) (by omega), Int.toNat_natCast, decide_eq_true h.1, decide_eq_true (by omega : (p : Int) - low < n)]
    cases hf : f p with
    | none => simp [entry]; omega
    | some x => simp [entry]
  · rw [decide_eq_false (by omega : ¬ ((low : Int) ≤ k ∧ k < low + n ∧ f k.toNat = none))]
    simp only [Bool.and_eq_false_iff, decide_eq_false_iff_not]
    left
    omega
theorem ook_of {low n : Nat} {f : Nat → Option OutV} (k : Int) : ook (ringOf OutV.zero low n f) low k = decide ((low : Int) ≤ k ∧ k < low + n ∧ f k.toNat = none) := by
  unfold ook
  rw [ringOf_length]
  by_cases h : (low : Int) ≤ k ∧ k < low + n
  · obtain ⟨p, rfl⟩ : ∃ p : Nat, k = p := ⟨k.toNat, by omega⟩
    rw [mod_toNat, ringOf_at _ _ _ _ (by omega) (by omega), Int.toNat_natCast, decide_eq_true h.1, decide_eq_true (by omega : (p : Int) - low < n)]
    cases hf : f p with
    | none => simp [entry]; omega
    | some x => simp [entry]
  · rw [decide_eq_false (by omega : ¬ ((low : Int) ≤ k ∧ k < low + n ∧ f k.toNat = none))]
    simp only [Bool.and_eq_false_iff, decide_eq_false_iff_not]
    left
    omega
theorem cput_of {low n : Nat} {f : Nat → Option CmdV} {p : Nat} (h1 : low ≤ p) (h2 : p < low + n) (x : CmdV) : cput (ringOf CmdV.zero low n f) p x = ringOf CmdV.zero low n (upd f p (some x)) := by
  unfold cput
  rw [ringOf_length, mod_toNat, ringOf_put _ _ _ _ h1 h2]
theorem oput_of {low n : Nat} {f : Nat → Option OutV} {p : Nat} (h1 : low ≤ p) (h2 : p < low + n) (x : OutV) : oput (ringOf OutV.zero low n f) p x = ringOf OutV.zero low n (upd f p (some x)) := by
  unfold oput
  rw [ringOf_length, mod_toNat, ringOf_put _ _ _ _ h1 h2]
theorem cdrop_of {low n : Nat} {f : Nat → Option CmdV} (hn : 0 < n) (h : f (low + n) = none) : cdrop (ringOf CmdV.zero low n f) low = ringOf CmdV.zero (low + 1) n f := by
  unfold cdrop
  rw [ringOf_length, mod_toNat, ringOf_drop _ _ _ _ hn h]
theorem odrop_of {low n : Nat} {f : Nat → Option OutV} (hn : 0 < n) (h : f (low + n) = none) : odrop (ringOf OutV.zero low n f) low = ringOf OutV.zero (low + 1) n f := by
  unfold odrop
  rw [ringOf_length, mod_toNat, ringOf_drop _ _ _ _ hn h]
end Go.Proofs.Ytibbnikfecilhaa
