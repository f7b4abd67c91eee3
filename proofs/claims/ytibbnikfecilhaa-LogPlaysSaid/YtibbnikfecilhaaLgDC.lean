/- Chapter 19: the stamp that an act takes, what a log was made with. (Printed by lggen.py.) -/
import Derived.Test.YtibbnikfecilhaaLgDB
namespace Go.Proofs.Ytibbnikfecilhaa
open Go.RowKit
set_option linter.unusedVariables false
set_option linter.unusedSimpArgs false

def tailOf (at_ nn n : Int) : Int := if at_ % 8 = 0 then n + nn % 4 - 2 else n
set_option maxHeartbeats 2000000 in
theorem tail_any (k at_ nn : Int) (n : Nat) (hn : n ≤ 1000000) (w : World) (r : Int) (hr : tailOf at_ nn n = r) : Calls Try.prog 28 #[.agg #[.int .i64 k, .int .i64 at_, .int .i64 nn], .int .i64 n] w fun e w' => e = .returned (.int .i64 r) ∧ Below w.heap.size w w' := by
  have hb := Lib.hid (bl_alloc (Below.refl _ w) (.cells #[.int .i64 k, .int .i64 at_, .int .i64 nn] 75))
  obtain ⟨x0, x1, x2⟩ := three_of (alloc_new w (.cells #[.int .i64 k, .int .i64 at_, .int .i64 nn] 75))
  have HR := Lib.hid hr
  clear hr
  unfold tailOf at HR
  by_cases g : at_ % 8 = 0
  · have d1 : (at_ % 8 == 0) = true := by simpa using g
    rw [if_pos g] at HR
    clear g
    go_enter Try.func28, Try.ntmps28
    go_wp2_with fail
    refine (rest_any _ 8 _ (by decide) (by decide)).mono ?_
    rintro e w' ⟨rfl, rfl⟩
    go_wp2_with fail
    refine (rest_any _ 4 _ (by decide) (by decide)).mono ?_
    rintro e w' ⟨rfl, rfl⟩
    have h4 : 0 ≤ nn % 4 ∧ nn % 4 < 4 := by omega
    obtain ⟨h41, h42⟩ := h4
    generalize nn % 4 = q at *
    go_wp2_with fail
    go_ret
    exact ⟨by rw [← HR.out]; rfl, hb.out⟩
  · have d1 : (at_ % 8 == 0) = false := by simpa using g
    rw [if_neg g] at HR
    clear g
    go_enter Try.func28, Try.ntmps28
    go_wp2_with fail
    refine (rest_any _ 8 _ (by decide) (by decide)).mono ?_
    rintro e w' ⟨rfl, rfl⟩
    go_wp2_with fail
    go_ret
    exact ⟨by rw [← HR.out]; rfl, hb.out⟩
set_option maxHeartbeats 2000000 in
theorem logConfig {w : World} {lo L : Nat} {b : LogB} {s : LogS} (h : LogAt w lo L b s) : Calls Try.prog 30 #[.pointer (some ⟨L, 0, none⟩)] w fun e w' => e = .returned (.agg s.cfg.cells.toArray) ∧ Below w.heap.size w w' := by
  have hl : ∀ i, (w.alloc (.cells #[.int .i64 0, .int .i64 0, .int .i64 0, .int .i64 0, .int .i64 0, .int .i64 0, .int .i64 0] 27)).cell? ⟨L, i, none⟩ = (lgCells b s)[i]? := fun i => cell_of_blk (alloc_old h.hL _) i
  have x0 := hl 0
  have x1 := hl 1
  have x2 := hl 2
  have x3 := hl 3
  have x4 := hl 4
  have x5 := hl 5
  have x6 := hl 6
  simp only [lgCells, List.getElem?_cons_zero, List.getElem?_cons_succ] at x0 x1 x2 x3 x4 x5 x6
  clear hl h
  go_enter Try.func30, Try.ntmps30
  go_wp2_with fail
  refine bodyPost_ret (v := .agg s.cfg.cells.toArray) ?_ rfl ⟨rfl, bl_alloc (Below.refl _ _) _⟩
  exact gresults1 (p := 2) rfl _ _ w.heap.size 27 _ (0, 0) _ rfl (alloc_new _ _) Try.underlying27 rfl ginfo
end Go.Proofs.Ytibbnikfecilhaa
