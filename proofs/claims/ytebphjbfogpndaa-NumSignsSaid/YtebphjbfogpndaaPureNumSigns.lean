/- The law NumSigns: quotient and remainder under turned signs; for all numbers (the least one is let by, as the law itself says), no conditions. -/
import Derived.Test.YtebphjbfogpndaaPNumSignsx1
import Derived.OpenShut
namespace Go.Proofs.Ytebphjbfogpndaa.Pure
open Go.RowKit Go.Proofs.Ytebphjbfogpndaa.PNumSigns Go.Proofs.YtebphjbfogpndaaW.PrintWords Go.Proofs.YtebphjbfogpndaaW.PrintLast

theorem awake_true : sibyllaw01_awake.f = some true := by kernel_rfl

theorem tdiv_bound (a b : Int) (h1 : -9223372036854775808 < a) (h2 : a ≤ 9223372036854775807) :
    -9223372036854775808 < a.tdiv b ∧ a.tdiv b ≤ 9223372036854775807 := by
  have h := Int.natAbs_tdiv_le_natAbs a b
  omega

theorem NumSigns : sibyllaw01_NumSigns.Pure := by
  intro a b ha hb
  have ha' := bounds_i64 ha
  have hb' := bounds_i64 hb
  refine ⟨1, ?_⟩
  unfold sibyllaw01_NumSigns.f
  rw [awake_true]
  simp only [Option.bind_some]
  by_cases c1 : b = 0
  · rw [if_pos c1]; rfl
  rw [if_neg c1]
  by_cases c2 : a = -9223372036854775808
  · rw [if_pos c2]; rfl
  rw [if_neg c2]
  by_cases c3 : b = -9223372036854775808
  · subst c3; rfl
  have c3' : (b == -9223372036854775808) = false := by simpa using c3
  rw [c3']
  have e1 : wrap64 (-a) = -a := by unfold wrap64; omega
  have e2 : wrap64 (-b) = -b := by unfold wrap64; omega
  obtain ⟨q1, q2⟩ := tdiv_bound a b (by omega) (by omega)
  have c4 : ¬ -b = 0 := by omega
  have e3 : wrap64 (a.tdiv b) = a.tdiv b := by unfold wrap64; omega
  have e4 : wrap64 (-a.tdiv b) = -a.tdiv b := by unfold wrap64; omega
  have e5 : wrap64 (-a.tmod b) = -a.tmod b := by
    have h := Int.mul_tdiv_add_tmod a b
    have h1 : (a.tmod b).natAbs ≤ a.natAbs := by
      rw [Int.natAbs_tmod]; exact Nat.mod_le _ _
    unfold wrap64; omega
  unfold sibyllaw01_NumSigns.j0
  simp [num_Do.f, c1, e1, e2, e3, e4, e5, c4, Int.neg_tdiv, Int.neg_tmod, Int.tdiv_neg, Int.tmod_neg]

end Go.Proofs.Ytebphjbfogpndaa.Pure
