/- Chapter 19: out, of, rest. (Printed by lggen.py.) -/
import Derived.Test.YtibbnikfecilhaaLgN
namespace Go.Proofs.Ytibbnikfecilhaa
open Go.RowKit
set_option linter.unusedVariables false
set_option linter.unusedSimpArgs false

theorem oresults1 {P : Program} {fn : Func} {p : Tmp} {ty : TypeId} (h : fn.results = #[.cell p ty]) (tmps : Array Value) (w : World) (g : Nat) (t : TypeId) (cs : Array Value) (fr : Nat × Nat) (d : TypeDesc)
    (hp : tmps.getD p undef = .pointer (some ⟨g, 0, none⟩)) (hg : w.heap[g]? = some (.cells cs t fr))
    (hu : P.underlying ty = some d) (hd : (match d with | .struct _ | .array _ _ => true | _ => false) = true) (hi : (P.info? ty).map (·.size) = some cs.size) :
    (results fn tmps).run P w = .ok (.agg cs) w := by
  have hp' : tmps[p]?.getD undef = .pointer (some ⟨g, 0, none⟩) := by simpa using hp
  simp [results, h, hp', asAddr, run_loadVar_row w g t ty cs fr d hg hu hd hi]
set_option maxHeartbeats 2000000 in
/-- What a worker tells, by a number. -/
theorem out_any (n : Int) (w : World) : Calls Try.prog 16 #[.int .i64 n] w fun e w' => ∃ k, e = .returned (.agg (OutV.cells ⟨some ⟨k, 0, none⟩, 1, 1⟩).toArray) ∧ w.heap.size ≤ k ∧ w'.heap[k]? = some (.cells #[.int .i64 n] 3 (0, 0)) ∧ Below w.heap.size w w' := by
  have hz2 := alloc_old (alloc_new w (.cells (OutV.cells ⟨some ⟨w.heap.size + 1, 0, none⟩, 1, 1⟩).toArray 47)) (.cells #[.int .i64 n] 3)
  have hk := alloc_new (w.alloc (.cells (OutV.cells ⟨some ⟨w.heap.size + 1, 0, none⟩, 1, 1⟩).toArray 47)) (.cells #[.int .i64 n] 3)
  rw [show (w.alloc (.cells (OutV.cells ⟨some ⟨w.heap.size + 1, 0, none⟩, 1, 1⟩).toArray 47)).heap.size = w.heap.size + 1 by simp] at hk
  have HZ2 := Lib.hid hz2
  have HK := Lib.hid hk
  have hb := Lib.hid (bl_alloc (bl_alloc (Below.refl _ w) (.cells (OutV.cells ⟨some ⟨w.heap.size + 1, 0, none⟩, 1, 1⟩).toArray 47)) (.cells #[.int .i64 n] 3))
  clear hz2 hk
  go_enter Try.func16, Try.ntmps16
  go_wp2_with fail
  refine bodyPost_ret (v := .agg (OutV.cells ⟨some ⟨w.heap.size + 1, 0, none⟩, 1, 1⟩).toArray) ?_ rfl ⟨w.heap.size + 1, rfl, Nat.le_succ _, HK.out, hb.out⟩
  exact oresults1 (p := 2) rfl _ _ w.heap.size 47 (OutV.cells ⟨some ⟨w.heap.size + 1, 0, none⟩, 1, 1⟩).toArray (0, 0) _ rfl HZ2.out Try.underlying47 rfl oinfo
set_option maxHeartbeats 2000000 in
/-- The number of what a worker told. -/
theorem of_any {w : World} {C : Nat} {x : OutV × Int} (h : LostIn w C x) : Calls Try.prog 18 #[.agg x.1.cells.toArray] w fun e w' => e = .returned (.int .i64 x.2) ∧ Below w.heap.size w w' := by
  have hb := Lib.hid (bl_alloc (Below.refl _ w) (.cells x.1.cells.toArray 47))
  have hz := alloc_new w (.cells x.1.cells.toArray 47)
  rcases h with rfl | ⟨k, _, h2, h3⟩
  · skip
    have x0 : (w.alloc (.cells #[.slice none 0 0, .slice none 0 0, .slice none 0 0, .slice none 0 0] 47)).cell? ⟨w.heap.size, 0, none⟩ = some (.slice none 0 0) := cell_of_blk (cs := [.slice none 0 0, .slice none 0 0, .slice none 0 0, .slice none 0 0]) hz 0
    have x1 : (w.alloc (.cells #[.slice none 0 0, .slice none 0 0, .slice none 0 0, .slice none 0 0] 47)).cell? ⟨w.heap.size, 1, none⟩ = some (.slice none 0 0) := cell_of_blk (cs := [.slice none 0 0, .slice none 0 0, .slice none 0 0, .slice none 0 0]) hz 1
    have x2 : (w.alloc (.cells #[.slice none 0 0, .slice none 0 0, .slice none 0 0, .slice none 0 0] 47)).cell? ⟨w.heap.size, 2, none⟩ = some (.slice none 0 0) := cell_of_blk (cs := [.slice none 0 0, .slice none 0 0, .slice none 0 0, .slice none 0 0]) hz 2
    have x3 : (w.alloc (.cells #[.slice none 0 0, .slice none 0 0, .slice none 0 0, .slice none 0 0] 47)).cell? ⟨w.heap.size, 3, none⟩ = some (.slice none 0 0) := cell_of_blk (cs := [.slice none 0 0, .slice none 0 0, .slice none 0 0, .slice none 0 0]) hz 3
    clear hz
    change Calls Try.prog 18 #[.agg #[.slice none 0 0, .slice none 0 0, .slice none 0 0, .slice none 0 0]] w _
    go_enter Try.func18, Try.ntmps18
    go_wp2_with fail
    go_ret
    exact ⟨rfl, hb.out⟩
  · obtain ⟨⟨la, ln, lc⟩, n⟩ := x
    simp only at h2 h3
    injection h2 with e1 e2 e3
    subst e1
    subst e2
    subst e3
    have h4 := alloc_old h3 (.cells (OutV.cells ⟨some ⟨k, 0, none⟩, 1, 1⟩).toArray 47)
    have x0 : (w.alloc (.cells #[.slice none 0 0, .slice (some ⟨k, 0, none⟩) 1 1, .slice none 0 0, .slice none 0 0] 47)).cell? ⟨w.heap.size, 0, none⟩ = some (.slice none 0 0) := cell_of_blk (cs := OutV.cells ⟨some ⟨k, 0, none⟩, 1, 1⟩) hz 0
    have x1 : (w.alloc (.cells #[.slice none 0 0, .slice (some ⟨k, 0, none⟩) 1 1, .slice none 0 0, .slice none 0 0] 47)).cell? ⟨w.heap.size, 1, none⟩ = some (.slice (some ⟨k, 0, none⟩) 1 1) := cell_of_blk (cs := OutV.cells ⟨some ⟨k, 0, none⟩, 1, 1⟩) hz 1
    have x2 : (w.alloc (.cells #[.slice none 0 0, .slice (some ⟨k, 0, none⟩) 1 1, .slice none 0 0, .slice none 0 0] 47)).cell? ⟨w.heap.size, 2, none⟩ = some (.slice none 0 0) := cell_of_blk (cs := OutV.cells ⟨some ⟨k, 0, none⟩, 1, 1⟩) hz 2
    have x3 : (w.alloc (.cells #[.slice none 0 0, .slice (some ⟨k, 0, none⟩) 1 1, .slice none 0 0, .slice none 0 0] 47)).cell? ⟨w.heap.size, 3, none⟩ = some (.slice none 0 0) := cell_of_blk (cs := OutV.cells ⟨some ⟨k, 0, none⟩, 1, 1⟩) hz 3
    have x5 : (w.alloc (.cells #[.slice none 0 0, .slice (some ⟨k, 0, none⟩) 1 1, .slice none 0 0, .slice none 0 0] 47)).cell? ⟨k, 0, none⟩ = some (.int .i64 n) := box_of h4
    clear hz h3 h4
    change Calls Try.prog 18 #[.agg #[.slice none 0 0, .slice (some ⟨k, 0, none⟩) 1 1, .slice none 0 0, .slice none 0 0]] w _
    go_enter Try.func18, Try.ntmps18
    go_wp2_with fail
    go_ret
    exact ⟨rfl, hb.out⟩
end Go.Proofs.Ytibbnikfecilhaa
