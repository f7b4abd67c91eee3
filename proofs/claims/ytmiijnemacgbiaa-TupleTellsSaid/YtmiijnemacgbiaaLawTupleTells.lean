/- The law TupleTells as its row states it: for every input it returns true and leaves what it was given as it was. -/
import Derived.Test.YtmiijnemacgbiaaRow
import Derived.Test.YtmiijnemacgbiaaTupTl
namespace Go.Proofs.Ytmiijnemacgbiaa.tupleTells
open Go.ChangeShapes Go.WideShapes Go.ChangeAt Go.RowKit
open Go.ChangeMaps (open_string shut_string)
set_option linter.unusedVariables false
set_option maxRecDepth 100000 in
theorem lifted (os : Os) (started : os.Started) (H : Type) (enc : TypeId × Value → H) :
    ReturnsInHanded {} Try.checked os 6 .any (Rows.tupleTellsSpec.pre6 enc Try.prog Try.f6 Rows.tupleTellsRow.domain false) (Rows.tupleTellsSpec.post enc Try.prog Try.f6 false true false false) := by
  refine returnsInHanded_of_change_sized (C := Try.checked) own started (by kernel_rfl) Try.func6
    (ChangeSpec.witness6 (enc := enc) (C := Try.checked) false ⟨#[], #[.slice none 0 0], []⟩ 8 (by kernel_rfl) (by kernel_rfl) (by kernel_rfl) (by kernel_rfl)) ?_
  intro W base args ds gs before hval0 hW hcnd hsz0 _
  have hsz : (DataW.weightsEach Try.prog (Try.f6.params.toList ++ Rows.tupleTellsSpec.plain.varTypes Try.prog) (ds ++ gs)).all (· ≤ reachBytes) = true := hsz0
  have hval : ∀ (j : Nat) t v, Try.f6.params[j]? = some t → args[j]? = some v → Value.okWide Try.prog W .any base t v := hval0
  have hW' := hW
  obtain ⟨p, q, hA0, hV, rfl, hfz, hnd⟩ := hW
  have hA : DataW.TrodAll enc Try.prog W 0 (fun _ => true) true Try.f6.params.toList args.toList ds p := hA0
  rw [Try.params6] at hA hval hsz
  have hA1 := hA
  obtain ⟨v0, vs0, d0, ds0, p0, q0, hargs, rfl, rfl, h0, r0⟩ := trodAll_cons hA
  obtain ⟨rfl, rfl, rfl⟩ := trodAll_nil r0
  obtain rfl : args = #[v0] := by cases args; simp_all
  obtain ⟨rfl, rfl⟩ := trodVars_none hV
  obtain ⟨a0, len0, cap0, rfl⟩ := okWide_slice Try.underlying22 (hval 0 22 v0 rfl rfl)
  obtain ⟨x0, hx0⟩ := arg_of (opens_slice (d := (kSlice (kInt .i64) 8)) Try.underlying22 (opens_slice (d := (kInt .i64)) Try.underlying26 (opens_int Try.underlying3) (by kernel_rfl) (by decide) (by kernel_rfl)) (by kernel_rfl) (by decide) (by kernel_rfl)) hsz (j := 0) rfl rfl h0
  obtain ⟨a0', len0', cap0', he0, hl0, hm0, hn0, hr0⟩ := hx0
  simp [Value.cells] at he0
  obtain ⟨rfl, rfl, rfl⟩ := he0
  refine (tells_law a0 len0 cap0 x0 W hr0).mono fun e W' ⟨he, bel⟩ => ?_
  subst he
  exact ⟨_, rfl, _, _, _, [], _, [], hW', trodAll_mk1 (shut_bool Try.underlying4 _), trodAll_below laidOut bel (by kernel_rfl) hA1, rfl, bel.frame _, fun h => by cases h⟩
theorem over : Rows.tupleTellsRow.holds Try.pinned (OpenSpec.ofChange Rows.tupleTellsSpec) :=
  OpenClaim.holds_of_wide 6 Try.f6 rfl rfl rfl rfl rfl rfl rfl ⟨rfl, rfl, rfl, rfl, rfl⟩ rfl rfl rfl rfl rfl (by kernel_rfl) Try.func6 (by kernel_rfl)
    (of_decide_eq_true (by kernel_rfl)) (by unfold Func.isWrapper; first | (rw [if_pos (by decide +kernel)]; kernel_rfl) | (rw [if_neg (by decide +kernel)]; exact ⟨rfl, rfl⟩))
    (fun os started H enc _ => lifted os started H enc)
end Go.Proofs.Ytmiijnemacgbiaa.tupleTells
namespace Go.Proofs.Ytmiijnemacgbiaa
theorem tupleTells_holds : Rows.TupleTellsSaid := tupleTells.over
#print axioms tupleTells_holds
end Go.Proofs.Ytmiijnemacgbiaa

