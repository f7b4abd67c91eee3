/- The law NumTells: for every op and all numbers, the program's arithmetic and tests answer as the document's own; no conditions. -/
import Derived.Test.YtebphjbfogpndaaPNumTellsx2
namespace Go.Proofs.Ytebphjbfogpndaa.Pure
open Go.RowKit Go.Proofs.Ytebphjbfogpndaa.PNumTells Go.Proofs.YtebphjbfogpndaaW.PrintWords Go.Proofs.YtebphjbfogpndaaW.PrintLast

theorem awake_true : sibyllaw01_awake.f = some true := by kernel_rfl

theorem tells_true (op a b : Int) : ∃ r, num_Do.f op a b = some r ∧ sibylref01_Do.f 5 op a b = some r := by
  unfold num_Do.f sibylref01_Do.f
  by_cases h1 : op = 1
  · subst h1; simp
  by_cases h2 : op = 2
  · subst h2; simp [wrap64]; omega
  by_cases h3 : op = 3
  · subst h3; simp
  by_cases h4 : op = 4
  · subst h4
    by_cases hb : b = 0
    · subst hb; simp [sibylref01_Do.j0]
    · by_cases hm : b = -1
      · subst hm; simp [sibylref01_Do.j0, sibylref01_Do.j1]
      · simp [sibylref01_Do.j0, sibylref01_Do.j1, hb, hm]
  by_cases h5 : op = 5
  · subst h5
    by_cases hb : b = 0
    · subst hb; simp [sibylref01_Do.j0]
    · by_cases hm : b = -1
      · subst hm; simp [sibylref01_Do.j0, sibylref01_Do.j1]
      · simp [sibylref01_Do.j0, sibylref01_Do.j1, hb, hm]
  have h5' : (op != 5) = true := by simp [h5]
  simp [h1, h2, h3, h4, h5, sibylref01_Do.j0]

theorem test_same (op a b : Int) : ∃ r, num_Test.f op a b = some r ∧ sibylref01_Test.f op a b = some r := by
  unfold num_Test.f sibylref01_Test.f
  by_cases h1 : op = 1
  · subst h1; simp
  by_cases h2 : op = 2
  · subst h2; simp
  by_cases h3 : op = 3
  · subst h3; simp
  by_cases h4 : op = 4
  · subst h4; simp
  by_cases h5 : op = 5
  · subst h5; simp
  by_cases h6 : op = 6
  · subst h6; simp
  simp [h1, h2, h3, h4, h5, h6]

theorem law_tells (op a b : Int) : sibyllaw01_tells.f 5 op a b = some true := by
  obtain ⟨r, h1, h2⟩ := tells_true op a b
  obtain ⟨s, h3, h4⟩ := test_same op a b
  unfold sibyllaw01_tells.f
  rw [h1, h2]; simp only [Option.bind_some]
  rw [h3, h4]; simp

theorem NumTells : sibyllaw01_NumTells.Pure := by
  intro a0 a1 a2 _ _ _
  refine ⟨5, ?_⟩
  unfold sibyllaw01_NumTells.f
  rw [awake_true]
  simp [law_tells]

end Go.Proofs.Ytebphjbfogpndaa.Pure
