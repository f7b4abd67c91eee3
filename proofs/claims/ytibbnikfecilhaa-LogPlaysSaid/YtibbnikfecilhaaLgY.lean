/- Chapter 19: of no log nothing comes, second part; of a config that is not right there is none. (Printed by lggen.py.) -/
import Derived.Test.YtibbnikfecilhaaLgZ
namespace Go.Proofs.Ytibbnikfecilhaa
open Go.RowKit
set_option linter.unusedVariables false
set_option linter.unusedSimpArgs false

set_option maxHeartbeats 2000000 in
theorem nilPost (i : Int) (w : World) : Calls Try.prog 15 #[.pointer none, .int .i64 i, .agg #[.slice none 0 0, .slice none 0 0, .slice none 0 0, .slice none 0 0]] w fun e w' => e = .returned (.bool false) ∧ Below w.heap.size w w' := by
  have hb1 := Lib.hid (bl_alloc (Below.refl _ w) (.cells #[.slice none 0 0, .slice none 0 0, .slice none 0 0, .slice none 0 0] 47))
  have HC := Lib.hid (nilCursor i)
  have HL := Lib.hid (nilLook (-1))
  go_enter Try.func15, Try.ntmps15
  go_wp2_with fail
  refine (HC.out _).mono ?_
  rintro e w' ⟨rfl, rfl⟩
  go_wp2_with fail
  refine (HL.out _).mono ?_
  rintro e w2 ⟨rfl, hb2⟩
  have HB2 := Lib.hid (bl_then hb1.out hb2)
  clear hb2
  go_wp2_with fail
  go_ret
  exact ⟨rfl, bl_alloc HB2.out _⟩
set_option maxHeartbeats 8000000 in
theorem nilCollect (w : World) : Calls Try.prog 17 #[.pointer none] w fun e w' => e = .returned (.tuple #[.slice none 0 0, .bool false]) ∧ Below w.heap.size w w' := by
  have hb1 := bl_alloc (Below.refl _ w) (.cells #[.pointer none] 24)
  have hz := alloc_new w (.cells #[.pointer none] 24)
  have HLOW := Lib.hid nilLow
  have HLOOK := Lib.hid fun W => nilLook 0 W
  have HB1 := Lib.hid hb1
  have HZ := Lib.hid hz
  have c0 : (w.alloc (.cells #[.pointer none] 24)).cell? ⟨w.heap.size, 0, none⟩ = some (.pointer none) := cell_of_blk (cs := [_]) hz 0
  clear hb1 hz
  go_enter Try.func17, Try.ntmps17
  go_wp2_with fail
  have neQ : w.heap.size ≠ w.heap.size + 1 := by omega
  go_cut [4, 5] (fun q l wx => ∃ Q, q = .pointer (some ⟨Q, 0, none⟩) ∧ l = .bool false ∧ wx.heap[w.heap.size]? = some (.cells #[.pointer none] 24 (0, 0)) ∧ Below w.heap.size w wx)
  case first =>
    go_region_held3 (fun w' => w'.cell? ⟨w.heap.size, 0, none⟩ = some (.pointer none)) (first | with_reducible exact box_of hz2 | with_reducible exact box_of (alloc_old hz2 _) | with_reducible exact box_of (setCell_other (setCell_other (setCell_other (setCell_other (setCell_other (setCell_other (setCell_other (setCell_other (setCell_other (setCell_other (setCell_other (setCell_other (setCell_other (setCell_other hz2 neQ _) neQ _) neQ _) neQ _) neQ _) neQ _) neQ _) neQ _) neQ _) neQ _) neQ _) neQ _) neQ _) neQ _) | exact c0 | exact box_of (alloc_old HZ.out _)) (first
      | (go_at_call 21; refine (HLOW.out _).mono ?_; rintro e w' ⟨rfl, rfl⟩)
      | (go_at_call 26; refine (HLOOK.out _).mono ?_; rintro e w2 ⟨rfl, hb2⟩; have hz2 := (hb2.block w.heap.size (by first | (simp; done) | (simp; omega))).trans (by first | exact HZ.out | exact alloc_old HZ.out _); have hb02 := bl_then (by first | exact bl_drew HB1.out | exact bl_alloc (bl_drew HB1.out) _ | exact bl_drew (bl_alloc HB1.out _)) hb2; (first | (have hq2 := (hb2.block (w.heap.size + 1) (by first | (simp; done) | (simp; omega))).trans (show (World.heap _)[w.heap.size + 1]? = some (.cells #[.int .i64 0, .int .i64 0, .int .i64 0, .int .i64 0, .int .i64 0, .int .i64 0, .int .i64 0, .int .i64 0, .int .i64 0, .int .i64 0, .int .i64 0, .slice none 0 0, .int .i64 0, .bool false] 39 (0, 0)) from by first | exact alloc_at (by simp) _ | exact alloc_at (by simp [World.drew]) _); obtain ⟨z0, y0, z1, y1, z2, y2, z3, y3, z4, y4, z5, y5, z6, y6, z7, y7, z8, y8, z9, y9, z10, y10, z11, y11, z12, y12, z13, y13⟩ := zero_cells hq2) | skip)))
    all_goals
      go_wp2_with fail
      go_meet
      case rel =>
        first
          | with_reducible exact ⟨_, rfl, rfl, alloc_old hz2 _, bl_alloc hb02 _⟩
          | exact ⟨w.heap.size + 1, rfl, rfl, (setCell_other (setCell_other (setCell_other (setCell_other (setCell_other (setCell_other (setCell_other (setCell_other (setCell_other (setCell_other (setCell_other (setCell_other (setCell_other (setCell_other hz2 neQ _) neQ _) neQ _) neQ _) neQ _) neQ _) neQ _) neQ _) neQ _) neQ _) neQ _) neQ _) neQ _) neQ _), (claid_new (S := fun _ => False) (w := w2) (b := w.heap.size + 1) (Nat.le_succ _) (Only.of_below hb02) 0 ⟨0, 0⟩).below (Nat.le_refl _) (fun _ h => h.elim)⟩
  case rest =>
    obtain ⟨Q, rfl, hl0, hP, hb⟩ := hcut
    subst hl0
    have cP := box_of hP
    obtain ⟨P, hPw⟩ : ∃ P, w.heap.size = P := ⟨_, rfl⟩
    simp only [hPw] at hP cP ⊢
    have HB := Lib.hid hb
    clear hb hP
    go_wp2_with fail
    go_ret2
    exact ⟨rfl, hPw ▸ HB.out⟩
theorem nilReply (w : World) : Calls Try.prog 20 #[.pointer none, .agg #[.int .i64 0, .int .i64 0, .slice none 0 0]] w fun e w' => e = .returned (.bool false) ∧ Below w.heap.size w w' := by
  have hb1 := bl_alloc (Below.refl _ w) (.cells #[.int .i64 0, .int .i64 0, .slice none 0 0] 58)
  have HC := Lib.hid nilCollect
  have HB := Lib.hid hb1
  clear hb1
  go_enter Try.func20, Try.ntmps20
  go_wp2_with fail
  refine (HC.out _).mono ?_
  rintro e w2 ⟨rfl, hb2⟩
  have HB2 := Lib.hid (bl_then HB.out hb2)
  clear hb2
  go_wp2_with fail
  go_ret
  exact ⟨rfl, HB2.out⟩
set_option maxHeartbeats 2000000 in
theorem newNot {w : World} (c : CfgI) (hc : c.rightB = false) :
    Calls Try.prog 11 #[.agg #[.int .i64 c.sh, .int .i64 c.inb, .int .i64 c.sl, .int .i64 c.qu, .int .i64 c.ru, .int .i64 c.ou, .int .i64 c.st]] w fun e w' => e = .returned (.pointer none) ∧ Below w.heap.size w w' := by
  have HR := Lib.hid fun W => right_any c W false hc
  obtain ⟨sh, inb, sln, qu, ru, ou, st⟩ := c
  have hb1 := bl_alloc (Below.refl _ w) (.cells #[.int .i64 sh, .int .i64 inb, .int .i64 sln, .int .i64 qu, .int .i64 ru, .int .i64 ou, .int .i64 st] 27)
  have hz := alloc_new w (.cells #[.int .i64 sh, .int .i64 inb, .int .i64 sln, .int .i64 qu, .int .i64 ru, .int .i64 ou, .int .i64 st] 27)
  have HB1 := Lib.hid hb1
  have x0 : (w.alloc (.cells #[.int .i64 sh, .int .i64 inb, .int .i64 sln, .int .i64 qu, .int .i64 ru, .int .i64 ou, .int .i64 st] 27)).cell? ⟨w.heap.size, 0, none⟩ = some (.int .i64 sh) := cell_of_blk (cs := [.int .i64 sh, .int .i64 inb, .int .i64 sln, .int .i64 qu, .int .i64 ru, .int .i64 ou, .int .i64 st]) hz 0
  have x1 : (w.alloc (.cells #[.int .i64 sh, .int .i64 inb, .int .i64 sln, .int .i64 qu, .int .i64 ru, .int .i64 ou, .int .i64 st] 27)).cell? ⟨w.heap.size, 1, none⟩ = some (.int .i64 inb) := cell_of_blk (cs := [.int .i64 sh, .int .i64 inb, .int .i64 sln, .int .i64 qu, .int .i64 ru, .int .i64 ou, .int .i64 st]) hz 1
  have x2 : (w.alloc (.cells #[.int .i64 sh, .int .i64 inb, .int .i64 sln, .int .i64 qu, .int .i64 ru, .int .i64 ou, .int .i64 st] 27)).cell? ⟨w.heap.size, 2, none⟩ = some (.int .i64 sln) := cell_of_blk (cs := [.int .i64 sh, .int .i64 inb, .int .i64 sln, .int .i64 qu, .int .i64 ru, .int .i64 ou, .int .i64 st]) hz 2
  have x3 : (w.alloc (.cells #[.int .i64 sh, .int .i64 inb, .int .i64 sln, .int .i64 qu, .int .i64 ru, .int .i64 ou, .int .i64 st] 27)).cell? ⟨w.heap.size, 3, none⟩ = some (.int .i64 qu) := cell_of_blk (cs := [.int .i64 sh, .int .i64 inb, .int .i64 sln, .int .i64 qu, .int .i64 ru, .int .i64 ou, .int .i64 st]) hz 3
  have x4 : (w.alloc (.cells #[.int .i64 sh, .int .i64 inb, .int .i64 sln, .int .i64 qu, .int .i64 ru, .int .i64 ou, .int .i64 st] 27)).cell? ⟨w.heap.size, 4, none⟩ = some (.int .i64 ru) := cell_of_blk (cs := [.int .i64 sh, .int .i64 inb, .int .i64 sln, .int .i64 qu, .int .i64 ru, .int .i64 ou, .int .i64 st]) hz 4
  have x5 : (w.alloc (.cells #[.int .i64 sh, .int .i64 inb, .int .i64 sln, .int .i64 qu, .int .i64 ru, .int .i64 ou, .int .i64 st] 27)).cell? ⟨w.heap.size, 5, none⟩ = some (.int .i64 ou) := cell_of_blk (cs := [.int .i64 sh, .int .i64 inb, .int .i64 sln, .int .i64 qu, .int .i64 ru, .int .i64 ou, .int .i64 st]) hz 5
  have x6 : (w.alloc (.cells #[.int .i64 sh, .int .i64 inb, .int .i64 sln, .int .i64 qu, .int .i64 ru, .int .i64 ou, .int .i64 st] 27)).cell? ⟨w.heap.size, 6, none⟩ = some (.int .i64 st) := cell_of_blk (cs := [.int .i64 sh, .int .i64 inb, .int .i64 sln, .int .i64 qu, .int .i64 ru, .int .i64 ou, .int .i64 st]) hz 6
  clear hb1 hz hc
  go_enter Try.func11, Try.ntmps11
  go_wp2_with fail
  refine (HR.out _).mono ?_
  rintro e w2 ⟨rfl, hb2⟩
  have HB2 := Lib.hid (bl_then HB1.out hb2)
  clear hb2
  go_wp2_with fail
  go_ret
  exact ⟨rfl, HB2.out⟩
end Go.Proofs.Ytibbnikfecilhaa
