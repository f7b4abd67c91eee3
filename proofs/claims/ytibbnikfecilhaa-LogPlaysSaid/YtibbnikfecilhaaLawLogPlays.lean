/- The law LogPlays as its row states it: for every input it returns true and leaves what it was given as it was. -/
import Derived.Test.YtibbnikfecilhaaRow
import Derived.Test.YtibbnikfecilhaaLgPL
namespace Go.Proofs.Ytibbnikfecilhaa.logPlays
open Go.ChangeShapes Go.WideShapes Go.ChangeAt Go.RowKit
open Go.ChangeMaps (open_string shut_string)
set_option linter.unusedVariables false
set_option maxRecDepth 100000 in
theorem lifted (os : Os) (started : os.Started) (H : Type) (enc : TypeId × Value → H) :
    ReturnsInHanded {} Try.checked os 7 .any (Rows.logPlaysSpec.pre6 enc Try.prog Try.f7 Rows.logPlaysRow.domain false) (Rows.logPlaysSpec.post enc Try.prog Try.f7 false true false false) := by
  refine returnsInHanded_of_change_sized (C := Try.checked) own started (by kernel_rfl) Try.func7
    (ChangeSpec.witness6 (enc := enc) (C := Try.checked) false ⟨#[], #[.agg #[.int .i64 0, .int .i64 0, .int .i64 0], .slice none 0 0], []⟩ 8 (by kernel_rfl) (by kernel_rfl) (by kernel_rfl) (by kernel_rfl)) ?_
  intro W base args ds gs before hval0 hW hcnd hsz0 _
  have hsz : (DataW.weightsEach Try.prog (Try.f7.params.toList ++ Rows.logPlaysSpec.plain.varTypes Try.prog) (ds ++ gs)).all (· ≤ reachBytes) = true := hsz0
  have hval : ∀ (j : Nat) t v, Try.f7.params[j]? = some t → args[j]? = some v → Value.okWide Try.prog W .any base t v := hval0
  have hW' := hW
  obtain ⟨p, q, hA0, hV, rfl, hfz, hnd⟩ := hW
  have hA : DataW.TrodAll enc Try.prog W 0 (fun _ => true) true Try.f7.params.toList args.toList ds p := hA0
  rw [Try.params7] at hA hval hsz
  have hA1 := hA
  obtain ⟨v0, vs0, d0, ds0, p0, q0, hargs, rfl, rfl, h0, r0⟩ := trodAll_cons hA
  obtain ⟨v1, vs1, d1, ds1, p1, q1, rfl, rfl, rfl, h1, r1⟩ := trodAll_cons r0
  obtain ⟨rfl, rfl, rfl⟩ := trodAll_nil r1
  obtain rfl : args = #[v0, v1] := by cases args; simp_all
  obtain ⟨rfl, rfl⟩ := trodVars_none hV
  obtain ⟨cs0, rfl, hz0, _⟩ : ∃ cs, v0 = .agg cs ∧ cs.size = Try.prog.cellsOf 64 ∧ Row.okWide Try.prog W .any base 64 cs := by
    have := hval 0 64 v0 rfl rfl
    simpa [Value.okWide, Try.underlying64] using this
  rw [show Try.prog.cellsOf 64 = 3 by kernel_rfl] at hz0
  obtain ⟨l0⟩ := cs0
  obtain ⟨c00, c01, c02, rfl⟩ := list3 l0 hz0
  obtain ⟨fuel0, hf0⟩ := h0
  obtain ⟨y00, y01, y02, m0, hx0, hy00, hy01, hy02⟩ := trod_array3 Try.underlying64 (by kernel_rfl) hf0
  obtain ⟨a00, e00, rfl, w00⟩ := DataW.trod_int Try.underlying3 hy00
  simp at e00
  subst e00
  obtain ⟨a01, e01, rfl, w01⟩ := DataW.trod_int Try.underlying3 hy01
  simp at e01
  subst e01
  obtain ⟨a02, e02, rfl, w02⟩ := DataW.trod_int Try.underlying3 hy02
  simp at e02
  subst e02
  simp only [Prod.mk.injEq] at hx0
  obtain ⟨rfl, rfl⟩ := hx0
  obtain ⟨a1, len1, cap1, rfl⟩ := okWide_slice Try.underlying65 (hval 1 65 v1 rfl rfl)
  obtain ⟨x1, hx1⟩ := arg_of (opens_slice (d := (kPair (kInt .i64) (kPair (kInt .i64) (kInt .i64)))) Try.underlying65 (opens_struct Try.underlying75 (by kernel_rfl) (fields_cons rfl (by kernel_rfl) (opens_int Try.underlying3) (fields_cons rfl (by kernel_rfl) (opens_int Try.underlying3) (fields_one rfl (by kernel_rfl) (opens_int Try.underlying3))))) (by kernel_rfl) (by decide) (by kernel_rfl)) hsz (j := 1) rfl rfl h1
  obtain ⟨a1', len1', cap1', he1, hl1, hm1, hn1, hr1⟩ := hx1
  simp [Value.cells] at he1
  obtain ⟨rfl, rfl, rfl⟩ := he1
  refine (plays_law a00 a01 a02 a1 len1 cap1 x1 W (bounds_i64 w00) (bounds_i64 w01) (bounds_i64 w02) hr1).mono fun e W' ⟨he, bel⟩ => ?_
  subst he
  exact ⟨_, rfl, _, _, _, [], _, [], hW', trodAll_mk1 (shut_bool Try.underlying4 _), trodAll_below laidOut bel (by kernel_rfl) hA1, rfl, bel.frame _, fun h => by cases h⟩
theorem over : Rows.logPlaysRow.holds Try.pinned (OpenSpec.ofChange Rows.logPlaysSpec) :=
  OpenClaim.holds_of_wide 7 Try.f7 rfl rfl rfl rfl rfl rfl rfl ⟨rfl, rfl, rfl, rfl, rfl⟩ rfl rfl rfl rfl rfl (by kernel_rfl) Try.func7 (by kernel_rfl)
    (of_decide_eq_true (by kernel_rfl)) (by unfold Func.isWrapper; first | (rw [if_pos (by decide +kernel)]; kernel_rfl) | (rw [if_neg (by decide +kernel)]; exact ⟨rfl, rfl⟩))
    (fun os started H enc _ => lifted os started H enc)
end Go.Proofs.Ytibbnikfecilhaa.logPlays
namespace Go.Proofs.Ytibbnikfecilhaa
theorem logPlays_holds : Rows.LogPlaysSaid := logPlays.over
#print axioms logPlays_holds
end Go.Proofs.Ytibbnikfecilhaa

