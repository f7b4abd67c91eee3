/- The law NumTests: of two numbers just one of less, same and more holds, and each other test is told by these; for all numbers, no conditions. -/
import Derived.Test.YtebphjbfogpndaaPNumTestsx1
namespace Go.Proofs.Ytebphjbfogpndaa.Pure
open Go.RowKit Go.Proofs.Ytebphjbfogpndaa.PNumTests Go.Proofs.YtebphjbfogpndaaW.PrintWords Go.Proofs.YtebphjbfogpndaaW.PrintLast

theorem awake_true : sibyllaw01_awake.f = some true := by kernel_rfl

theorem NumTests : sibyllaw01_NumTests.Pure := by
  intro a b _ _
  refine ⟨1, ?_⟩
  unfold sibyllaw01_NumTests.f
  rw [awake_true]
  rcases Int.lt_trichotomy a b with h | h | h
  · have h1 : ¬ a = b := by omega
    have h2 : ¬ b = a := by omega
    have h3 : ¬ b < a := by omega
    have h4 : a ≤ b := by omega
    have h5 : ¬ b ≤ a := by omega
    have k1 : (a == b) = false := by simp [h1]
    have k2 : (b == a) = false := by simp [h2]
    have k3 : (a != b) = true := by simp [h1]
    simp [num_Test.f, sibyllaw01_NumTests.j0, h, h3, h4, h5, k1, k2, k3]
  · subst h
    simp [num_Test.f, sibyllaw01_NumTests.j0]
  · have h1 : ¬ a = b := by omega
    have h2 : ¬ b = a := by omega
    have h3 : ¬ a < b := by omega
    have h4 : b ≤ a := by omega
    have h5 : ¬ a ≤ b := by omega
    have k1 : (a == b) = false := by simp [h1]
    have k2 : (b == a) = false := by simp [h2]
    have k3 : (a != b) = true := by simp [h1]
    simp [num_Test.f, sibyllaw01_NumTests.j0, h, h3, h4, h5, k1, k2, k3]

end Go.Proofs.Ytebphjbfogpndaa.Pure
