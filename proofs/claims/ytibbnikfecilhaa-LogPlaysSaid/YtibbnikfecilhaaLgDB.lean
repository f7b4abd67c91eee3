/- Chapter 19: a config by numbers, the stamp that an act takes, what a log was made with. (Printed by lggen.py.) -/
import Derived.Test.YtibbnikfecilhaaLgDA
namespace Go.Proofs.Ytibbnikfecilhaa
open Go.RowKit
set_option linter.unusedVariables false
set_option linter.unusedSimpArgs false

/-- A config by numbers. -/
def cfgOf (q0 q1 q2 : Int) : CfgV := ⟨(1 + q0 % 3).toNat, (1 + q1 % 5).toNat, 4, 2, 9, 9, 1 + q2 % 24⟩
theorem cfgOf_sh (q0 q1 q2 : Int) : 1 + q0 % 3 = ((cfgOf q0 q1 q2).sh : Nat) ∧ 1 + q1 % 5 = ((cfgOf q0 q1 q2).inb : Nat) ∧ 1 + q2 % 24 = (cfgOf q0 q1 q2).st := by
  refine ⟨?_, ?_, rfl⟩
  · show _ = (((1 + q0 % 3).toNat : Nat) : Int); omega
  · show _ = (((1 + q1 % 5).toNat : Nat) : Int); omega
theorem cfgOf_right (q0 q1 q2 : Int) : (cfgOf q0 q1 q2).asI.rightB = true := by
  obtain ⟨e1, e2, e3⟩ := cfgOf_sh q0 q1 q2
  show ((okB ((cfgOf q0 q1 q2).inb : Nat) && okB 4 && okB 2 && okB 9 && okB 9) && (decide (1 ≤ (((cfgOf q0 q1 q2).sh : Nat) : Int)) && decide ((((cfgOf q0 q1 q2).sh : Nat) : Int) ≤ 15) && (decide (1 ≤ (cfgOf q0 q1 q2).st) && decide ((cfgOf q0 q1 q2).st ≤ 1099511627776)))) = true
  rw [← e1, ← e2, ← e3]
  unfold okB
  rw [decide_eq_true (show (1 : Int) ≤ 1 + q1 % 5 by omega), decide_eq_true (show 1 + q1 % 5 ≤ (4096 : Int) by omega), decide_eq_true (show (1 : Int) ≤ 1 + q0 % 3 by omega), decide_eq_true (show 1 + q0 % 3 ≤ (15 : Int) by omega), decide_eq_true (show (1 : Int) ≤ 1 + q2 % 24 by omega), decide_eq_true (show 1 + q2 % 24 ≤ (1099511627776 : Int) by omega)]
  rfl
theorem three_of {w : World} {P : Nat} {x y z : Value} {t : TypeId} (h : w.heap[P]? = some (.cells #[x, y, z] t (0, 0))) : w.cell? ⟨P, 0, none⟩ = some x ∧ w.cell? ⟨P, 1, none⟩ = some y ∧ w.cell? ⟨P, 2, none⟩ = some z := ⟨cell_of_blk (cs := [x, y, z]) h 0, cell_of_blk (cs := [x, y, z]) h 1, cell_of_blk (cs := [x, y, z]) h 2⟩
set_option maxHeartbeats 8000000 in
set_option maxRecDepth 20000 in
theorem config_any (q0 q1 q2 : Int) (w : World) : Calls Try.prog 23 #[.agg #[.int .i64 q0, .int .i64 q1, .int .i64 q2]] w fun e w' =>
    e = .returned (.agg #[.int .i64 ((cfgOf q0 q1 q2).sh : Nat), .int .i64 ((cfgOf q0 q1 q2).inb : Nat), .int .i64 4, .int .i64 2, .int .i64 9, .int .i64 9, .int .i64 (cfgOf q0 q1 q2).st]) ∧ Below w.heap.size w w' := by
  have hz := alloc_new w (.cells #[.int .i64 q0, .int .i64 q1, .int .i64 q2] 64)
  have hw : IntKind.i64.wrap (1 + q0 % 3) = ((cfgOf q0 q1 q2).sh : Nat) ∧ IntKind.i64.wrap (1 + q1 % 5) = ((cfgOf q0 q1 q2).inb : Nat) ∧ IntKind.i64.wrap (1 + q2 % 24) = (cfgOf q0 q1 q2).st := by
    obtain ⟨e1, e2, e3⟩ := cfgOf_sh q0 q1 q2
    rw [← e1, ← e2, ← e3]
    exact ⟨wrap_small (by omega), wrap_small (by omega), wrap_small (by omega)⟩
  have HW := Lib.hid hw
  have HZ := Lib.hid hz
  clear hz hw
  go_enter Try.func23, Try.ntmps23
  go_wp2_with fail
  go_region_held3 (fun w' => w'.cell? ⟨w.heap.size, 0, none⟩ = some (.int .i64 q0) ∧ w'.cell? ⟨w.heap.size, 1, none⟩ = some (.int .i64 q1) ∧ w'.cell? ⟨w.heap.size, 2, none⟩ = some (.int .i64 q2)) (exact three_of (by repeat' (first | exact HZ.out | with_reducible refine drew_blk ?_ | with_reducible refine alloc_old ?_ _))) (first | (go_at_call 10; refine (rest_any _ _ _ (by decide) (by decide)).mono ?_; rintro e w' ⟨rfl, rfl⟩))
  all_goals
    go_wp2_with fail
    simp only [HW.out.1, HW.out.2.1, HW.out.2.2]
    refine bodyPost_ret (v := .agg #[.int .i64 ((cfgOf q0 q1 q2).sh : Nat), .int .i64 ((cfgOf q0 q1 q2).inb : Nat), .int .i64 4, .int .i64 2, .int .i64 9, .int .i64 9, .int .i64 (cfgOf q0 q1 q2).st]) ?_ rfl ⟨rfl, bl_drew (bl_alloc (bl_alloc (Below.refl _ _) _) _)⟩
    exact gresults1 (p := 2) rfl _ _ (w.heap.size + 1) 27 _ (0, 0) _ rfl (drew_blk (alloc_at (by simp) _)) Try.underlying27 rfl ginfo
end Go.Proofs.Ytibbnikfecilhaa
