/- The law NumDivides: what is divided is the quotient times the divisor and what is left, with the remainder's bounds and sign; for all numbers, no conditions. -/
import Derived.Test.YtebphjbfogpndaaPNumDividesx1
import Derived.OpenShut
namespace Go.Proofs.Ytebphjbfogpndaa.Pure
open Go.RowKit Go.Proofs.Ytebphjbfogpndaa.PNumDivides Go.Proofs.YtebphjbfogpndaaW.PrintWords Go.Proofs.YtebphjbfogpndaaW.PrintLast

theorem awake_true : sibyllaw01_awake.f = some true := by kernel_rfl

theorem wrap_shift (x k : Int) : wrap64 (x - 18446744073709551616 * k) = wrap64 x := by
  unfold wrap64; omega

theorem wrap_mul (t b : Int) : wrap64 (wrap64 t * b) = wrap64 (t * b) := by
  have h : ∃ k, wrap64 t = t - 18446744073709551616 * k := ⟨(t + 9223372036854775808) / 18446744073709551616, by unfold wrap64; omega⟩
  obtain ⟨k, hk⟩ := h
  rw [hk, Int.sub_mul, Int.mul_assoc, wrap_shift]

theorem wrap_add (x r : Int) : wrap64 (wrap64 x + r) = wrap64 (x + r) := by
  unfold wrap64; omega

/-- What a remainder is: below the divisor's size, of the sign of what is divided. -/
theorem tmod_facts (a b : Int) (hb : b ≠ 0) :
    (0 ≤ a → 0 ≤ a.tmod b) ∧ (a ≤ 0 → a.tmod b ≤ 0) ∧ (0 < b → -b < a.tmod b ∧ a.tmod b < b) ∧ (b < 0 → b < a.tmod b ∧ a.tmod b < -b) := by
  have h := Int.natAbs_tmod a b
  have h2 : a.natAbs % b.natAbs < b.natAbs := Nat.mod_lt _ (by omega)
  have hs : 0 ≤ a → 0 ≤ a.tmod b := fun h => Int.tmod_nonneg b h
  have hs' : a ≤ 0 → a.tmod b ≤ 0 := fun h => by
    have := Int.tmod_nonneg b (show 0 ≤ -a by omega)
    rw [Int.neg_tmod] at this
    omega
  refine ⟨hs, hs', fun _ => ?_, fun _ => ?_⟩ <;> omega

theorem NumDivides : sibyllaw01_NumDivides.Pure := by
  intro a b ha hb
  have ha' := bounds_i64 ha
  have hb' := bounds_i64 hb
  refine ⟨2, ?_⟩
  unfold sibyllaw01_NumDivides.f
  rw [awake_true]
  by_cases c1 : b = 0
  · subst c1
    simp [num_Do.f]
  obtain ⟨f1, f2, f3, f4⟩ := tmod_facts a b c1
  have hsum : wrap64 (wrap64 (wrap64 (a.tdiv b) * b) + a.tmod b) = a := by
    rw [wrap_add]
    have h2 : wrap64 (wrap64 (a.tdiv b) * b + a.tmod b) = wrap64 (a.tdiv b * b + a.tmod b) := by
      rw [← wrap_add, wrap_mul, wrap_add]
    rw [h2, Int.mul_comm, Int.mul_tdiv_add_tmod]
    unfold wrap64; omega
  simp only [num_Do.f, Option.bind_some, if_true, if_neg c1, (by decide : ¬ (4 : Int) = 2), (by decide : ¬ (4 : Int) = 1), (by decide : ¬ (4 : Int) = 3), (by decide : ¬ (5 : Int) = 2), (by decide : ¬ (5 : Int) = 1), (by decide : ¬ (5 : Int) = 3), (by decide : ¬ (5 : Int) = 4), (by decide : ¬ (3 : Int) = 2), (by decide : ¬ (3 : Int) = 1), (by decide : ¬ (1 : Int) = 2), if_false, hsum]
  generalize a.tmod b = r at *
  have hw : wrap64 (-r) = -r := by unfold wrap64; omega
  have hwb : 0 < b → wrap64 (-b) = -b := fun _ => by unfold wrap64; omega
  have hne : (a != a) = false := by simp
  rw [hne]
  have last : sibyllaw01_NumDivides.j1 1 b true r false = some true := by
    simp only [sibyllaw01_NumDivides.j1, hw]
    rw [if_neg (by decide)]
    by_cases g : r > 0
    · rw [if_pos g, if_pos trivial]
      by_cases g2 : b > 0
      · rw [if_pos g2, if_pos (by omega)]
      · rw [if_neg g2, if_pos (by omega)]
        congr 1; exact decide_eq_true (by omega)
    · rw [if_neg g, if_pos trivial]
      by_cases g2 : b > 0
      · rw [if_pos g2, hwb g2, if_pos (by omega)]
      · rw [if_neg g2, if_pos (by omega), if_pos (by omega)]
  simp only [sibyllaw01_NumDivides.j0]
  rw [if_neg (by decide)]
  by_cases g : a ≥ 0
  · rw [if_pos g, if_neg (by omega), if_neg (by omega)]
    exact last
  · rw [if_neg g, if_pos (by omega), show decide (r > 0) = false from decide_eq_false (by omega)]
    exact last

end Go.Proofs.Ytebphjbfogpndaa.Pure
