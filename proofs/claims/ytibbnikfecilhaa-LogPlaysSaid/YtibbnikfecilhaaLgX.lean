/- Chapter 19: is a config right, as the document says? (Printed by mkrr.py.) -/
import Derived.Test.YtibbnikfecilhaaLgY
namespace Go.Proofs.Ytibbnikfecilhaa
open Go.RowKit
set_option linter.unusedVariables false
set_option linter.unusedSimpArgs false

set_option maxHeartbeats 8000000 in
set_option maxRecDepth 20000 in
theorem refRight (c : CfgI) (w : World) (r : Bool) (hr : c.rightB = r) :
    Calls Try.prog 33 #[.agg #[.int .i64 c.sh, .int .i64 c.inb, .int .i64 c.sl, .int .i64 c.qu, .int .i64 c.ru, .int .i64 c.ou, .int .i64 c.st]] w fun e w' => e = .returned (.bool r) ∧ Below w.heap.size w w' := by
  obtain ⟨sh, inb, sln, qu, ru, ou, st⟩ := c
  have HB := Lib.hid (bl_alloc (bl_alloc (Below.refl _ w) (.cells #[.int .i64 sh, .int .i64 inb, .int .i64 sln, .int .i64 qu, .int .i64 ru, .int .i64 ou, .int .i64 st] 27)) (.cells #[.int .i64 inb, .int .i64 sln, .int .i64 qu, .int .i64 ru, .int .i64 ou] 106))
  have hz := alloc_new w (.cells #[.int .i64 sh, .int .i64 inb, .int .i64 sln, .int .i64 qu, .int .i64 ru, .int .i64 ou, .int .i64 st] 27)
  have hz2 := alloc_old hz (.cells #[.int .i64 inb, .int .i64 sln, .int .i64 qu, .int .i64 ru, .int .i64 ou] 106)
  have hq := alloc_new (w.alloc (.cells #[.int .i64 sh, .int .i64 inb, .int .i64 sln, .int .i64 qu, .int .i64 ru, .int .i64 ou, .int .i64 st] 27)) (.cells #[.int .i64 inb, .int .i64 sln, .int .i64 qu, .int .i64 ru, .int .i64 ou] 106)
  rw [show (w.alloc (.cells #[.int .i64 sh, .int .i64 inb, .int .i64 sln, .int .i64 qu, .int .i64 ru, .int .i64 ou, .int .i64 st] 27)).heap.size = w.heap.size + 1 by simp] at hq
  have x0 : (w.alloc (.cells #[.int .i64 sh, .int .i64 inb, .int .i64 sln, .int .i64 qu, .int .i64 ru, .int .i64 ou, .int .i64 st] 27)).cell? ⟨w.heap.size, 0, none⟩ = some (.int .i64 sh) := cell_of_blk (cs := [.int .i64 sh, .int .i64 inb, .int .i64 sln, .int .i64 qu, .int .i64 ru, .int .i64 ou, .int .i64 st]) hz 0
  have x1 : (w.alloc (.cells #[.int .i64 sh, .int .i64 inb, .int .i64 sln, .int .i64 qu, .int .i64 ru, .int .i64 ou, .int .i64 st] 27)).cell? ⟨w.heap.size, 1, none⟩ = some (.int .i64 inb) := cell_of_blk (cs := [.int .i64 sh, .int .i64 inb, .int .i64 sln, .int .i64 qu, .int .i64 ru, .int .i64 ou, .int .i64 st]) hz 1
  have x2 : (w.alloc (.cells #[.int .i64 sh, .int .i64 inb, .int .i64 sln, .int .i64 qu, .int .i64 ru, .int .i64 ou, .int .i64 st] 27)).cell? ⟨w.heap.size, 2, none⟩ = some (.int .i64 sln) := cell_of_blk (cs := [.int .i64 sh, .int .i64 inb, .int .i64 sln, .int .i64 qu, .int .i64 ru, .int .i64 ou, .int .i64 st]) hz 2
  have x3 : (w.alloc (.cells #[.int .i64 sh, .int .i64 inb, .int .i64 sln, .int .i64 qu, .int .i64 ru, .int .i64 ou, .int .i64 st] 27)).cell? ⟨w.heap.size, 3, none⟩ = some (.int .i64 qu) := cell_of_blk (cs := [.int .i64 sh, .int .i64 inb, .int .i64 sln, .int .i64 qu, .int .i64 ru, .int .i64 ou, .int .i64 st]) hz 3
  have x4 : (w.alloc (.cells #[.int .i64 sh, .int .i64 inb, .int .i64 sln, .int .i64 qu, .int .i64 ru, .int .i64 ou, .int .i64 st] 27)).cell? ⟨w.heap.size, 4, none⟩ = some (.int .i64 ru) := cell_of_blk (cs := [.int .i64 sh, .int .i64 inb, .int .i64 sln, .int .i64 qu, .int .i64 ru, .int .i64 ou, .int .i64 st]) hz 4
  have x5 : (w.alloc (.cells #[.int .i64 sh, .int .i64 inb, .int .i64 sln, .int .i64 qu, .int .i64 ru, .int .i64 ou, .int .i64 st] 27)).cell? ⟨w.heap.size, 5, none⟩ = some (.int .i64 ou) := cell_of_blk (cs := [.int .i64 sh, .int .i64 inb, .int .i64 sln, .int .i64 qu, .int .i64 ru, .int .i64 ou, .int .i64 st]) hz 5
  have x6 : (w.alloc (.cells #[.int .i64 sh, .int .i64 inb, .int .i64 sln, .int .i64 qu, .int .i64 ru, .int .i64 ou, .int .i64 st] 27)).cell? ⟨w.heap.size, 6, none⟩ = some (.int .i64 st) := cell_of_blk (cs := [.int .i64 sh, .int .i64 inb, .int .i64 sln, .int .i64 qu, .int .i64 ru, .int .i64 ou, .int .i64 st]) hz 6
  have u0 : ((w.alloc (.cells #[.int .i64 sh, .int .i64 inb, .int .i64 sln, .int .i64 qu, .int .i64 ru, .int .i64 ou, .int .i64 st] 27)).alloc (.cells #[.int .i64 inb, .int .i64 sln, .int .i64 qu, .int .i64 ru, .int .i64 ou] 106)).cell? ⟨w.heap.size, 0, none⟩ = some (.int .i64 sh) := cell_of_blk (cs := [.int .i64 sh, .int .i64 inb, .int .i64 sln, .int .i64 qu, .int .i64 ru, .int .i64 ou, .int .i64 st]) hz2 0
  have u6 : ((w.alloc (.cells #[.int .i64 sh, .int .i64 inb, .int .i64 sln, .int .i64 qu, .int .i64 ru, .int .i64 ou, .int .i64 st] 27)).alloc (.cells #[.int .i64 inb, .int .i64 sln, .int .i64 qu, .int .i64 ru, .int .i64 ou] 106)).cell? ⟨w.heap.size, 6, none⟩ = some (.int .i64 st) := cell_of_blk (cs := [.int .i64 sh, .int .i64 inb, .int .i64 sln, .int .i64 qu, .int .i64 ru, .int .i64 ou, .int .i64 st]) hz2 6
  have y0 : ((w.alloc (.cells #[.int .i64 sh, .int .i64 inb, .int .i64 sln, .int .i64 qu, .int .i64 ru, .int .i64 ou, .int .i64 st] 27)).alloc (.cells #[.int .i64 inb, .int .i64 sln, .int .i64 qu, .int .i64 ru, .int .i64 ou] 106)).cell? ⟨w.heap.size + 1, 0, none⟩ = some (.int .i64 inb) := cell_of_blk (cs := [.int .i64 inb, .int .i64 sln, .int .i64 qu, .int .i64 ru, .int .i64 ou]) hq 0
  have y1 : ((w.alloc (.cells #[.int .i64 sh, .int .i64 inb, .int .i64 sln, .int .i64 qu, .int .i64 ru, .int .i64 ou, .int .i64 st] 27)).alloc (.cells #[.int .i64 inb, .int .i64 sln, .int .i64 qu, .int .i64 ru, .int .i64 ou] 106)).cell? ⟨w.heap.size + 1, 1, none⟩ = some (.int .i64 sln) := cell_of_blk (cs := [.int .i64 inb, .int .i64 sln, .int .i64 qu, .int .i64 ru, .int .i64 ou]) hq 1
  have y2 : ((w.alloc (.cells #[.int .i64 sh, .int .i64 inb, .int .i64 sln, .int .i64 qu, .int .i64 ru, .int .i64 ou, .int .i64 st] 27)).alloc (.cells #[.int .i64 inb, .int .i64 sln, .int .i64 qu, .int .i64 ru, .int .i64 ou] 106)).cell? ⟨w.heap.size + 1, 2, none⟩ = some (.int .i64 qu) := cell_of_blk (cs := [.int .i64 inb, .int .i64 sln, .int .i64 qu, .int .i64 ru, .int .i64 ou]) hq 2
  have y3 : ((w.alloc (.cells #[.int .i64 sh, .int .i64 inb, .int .i64 sln, .int .i64 qu, .int .i64 ru, .int .i64 ou, .int .i64 st] 27)).alloc (.cells #[.int .i64 inb, .int .i64 sln, .int .i64 qu, .int .i64 ru, .int .i64 ou] 106)).cell? ⟨w.heap.size + 1, 3, none⟩ = some (.int .i64 ru) := cell_of_blk (cs := [.int .i64 inb, .int .i64 sln, .int .i64 qu, .int .i64 ru, .int .i64 ou]) hq 3
  have y4 : ((w.alloc (.cells #[.int .i64 sh, .int .i64 inb, .int .i64 sln, .int .i64 qu, .int .i64 ru, .int .i64 ou, .int .i64 st] 27)).alloc (.cells #[.int .i64 inb, .int .i64 sln, .int .i64 qu, .int .i64 ru, .int .i64 ou] 106)).cell? ⟨w.heap.size + 1, 4, none⟩ = some (.int .i64 ou) := cell_of_blk (cs := [.int .i64 inb, .int .i64 sln, .int .i64 qu, .int .i64 ru, .int .i64 ou]) hq 4
  have HR := Lib.hid hr
  clear hz hz2 hq hr
  go_enter Try.func33, Try.ntmps33
  go_wp2_with fail
  go_loopw [4] (fun i wr => ∃ I : Nat, I ≤ 5 ∧ i = .int .i64 I ∧ wr = (w.alloc (.cells #[.int .i64 sh, .int .i64 inb, .int .i64 sln, .int .i64 qu, .int .i64 ru, .int .i64 ou, .int .i64 st] 27)).alloc (.cells #[.int .i64 inb, .int .i64 sln, .int .i64 qu, .int .i64 ru, .int .i64 ou] 106) ∧ Hid (∀ j, j < I → okB (CfgI.five ⟨sh, inb, sln, qu, ru, ou, st⟩ j) = true)) (fun i _ => 5 - (intOf i).toNat)
  case atStart => exact ⟨0, by omega, rfl, rfl, Lib.hid fun j hj => absurd hj (Nat.not_lt_zero _)⟩
  case round =>
    obtain ⟨I, hI, rfl, rfl, hok⟩ := hrel
    have hcase : I = 0 ∨ I = 1 ∨ I = 2 ∨ I = 3 ∨ I = 4 ∨ I = 5 := by omega
    rcases hcase with rfl | rfl | rfl | rfl | rfl | rfl
    · by_cases g1 : inb < 1
      · have hbad : r = false := by
          rw [← HR.out]
          exact right_bad (I := 0) (by omega) (by simp only [okB, CfgI.five]; rw [decide_eq_false (by omega)]; rfl)
        subst hbad
        go_wp2_with fail
        go_ret
        exact ⟨rfl, HB.out⟩
      · by_cases g2 : 4096 < inb
        · have hbad : r = false := by
            rw [← HR.out]
            exact right_bad (I := 0) (by omega) (by simp only [okB, CfgI.five]; rw [decide_eq_false (p := inb ≤ 4096) (by omega)]; simp)
          subst hbad
          go_wp2_with fail
          go_ret
          exact ⟨rfl, HB.out⟩
        · have hok' : Hid (∀ j, j < 0 + 1 → okB (CfgI.five ⟨sh, inb, sln, qu, ru, ou, st⟩ j) = true) := Lib.hid fun j hj => by
            by_cases e : j = 0
            · subst e
              simp only [okB, CfgI.five]
              rw [decide_eq_true (by omega), decide_eq_true (by omega)]
              rfl
            · exact hok.out j (by omega)
          go_wp2_with fail
          go_roundw
          case rel => exact ⟨0 + 1, by omega, rfl, trivial, hok'⟩
          case measure => simp [intOf]
    · by_cases g1 : sln < 1
      · have hbad : r = false := by
          rw [← HR.out]
          exact right_bad (I := 1) (by omega) (by simp only [okB, CfgI.five]; rw [decide_eq_false (by omega)]; rfl)
        subst hbad
        go_wp2_with fail
        go_ret
        exact ⟨rfl, HB.out⟩
      · by_cases g2 : 4096 < sln
        · have hbad : r = false := by
            rw [← HR.out]
            exact right_bad (I := 1) (by omega) (by simp only [okB, CfgI.five]; rw [decide_eq_false (p := sln ≤ 4096) (by omega)]; simp)
          subst hbad
          go_wp2_with fail
          go_ret
          exact ⟨rfl, HB.out⟩
        · have hok' : Hid (∀ j, j < 1 + 1 → okB (CfgI.five ⟨sh, inb, sln, qu, ru, ou, st⟩ j) = true) := Lib.hid fun j hj => by
            by_cases e : j = 1
            · subst e
              simp only [okB, CfgI.five]
              rw [decide_eq_true (by omega), decide_eq_true (by omega)]
              rfl
            · exact hok.out j (by omega)
          go_wp2_with fail
          go_roundw
          case rel => exact ⟨1 + 1, by omega, rfl, trivial, hok'⟩
          case measure => simp [intOf]
    · by_cases g1 : qu < 1
      · have hbad : r = false := by
          rw [← HR.out]
          exact right_bad (I := 2) (by omega) (by simp only [okB, CfgI.five]; rw [decide_eq_false (by omega)]; rfl)
        subst hbad
        go_wp2_with fail
        go_ret
        exact ⟨rfl, HB.out⟩
      · by_cases g2 : 4096 < qu
        · have hbad : r = false := by
            rw [← HR.out]
            exact right_bad (I := 2) (by omega) (by simp only [okB, CfgI.five]; rw [decide_eq_false (p := qu ≤ 4096) (by omega)]; simp)
          subst hbad
          go_wp2_with fail
          go_ret
          exact ⟨rfl, HB.out⟩
        · have hok' : Hid (∀ j, j < 2 + 1 → okB (CfgI.five ⟨sh, inb, sln, qu, ru, ou, st⟩ j) = true) := Lib.hid fun j hj => by
            by_cases e : j = 2
            · subst e
              simp only [okB, CfgI.five]
              rw [decide_eq_true (by omega), decide_eq_true (by omega)]
              rfl
            · exact hok.out j (by omega)
          go_wp2_with fail
          go_roundw
          case rel => exact ⟨2 + 1, by omega, rfl, trivial, hok'⟩
          case measure => simp [intOf]
    · by_cases g1 : ru < 1
      · have hbad : r = false := by
          rw [← HR.out]
          exact right_bad (I := 3) (by omega) (by simp only [okB, CfgI.five]; rw [decide_eq_false (by omega)]; rfl)
        subst hbad
        go_wp2_with fail
        go_ret
        exact ⟨rfl, HB.out⟩
      · by_cases g2 : 4096 < ru
        · have hbad : r = false := by
            rw [← HR.out]
            exact right_bad (I := 3) (by omega) (by simp only [okB, CfgI.five]; rw [decide_eq_false (p := ru ≤ 4096) (by omega)]; simp)
          subst hbad
          go_wp2_with fail
          go_ret
          exact ⟨rfl, HB.out⟩
        · have hok' : Hid (∀ j, j < 3 + 1 → okB (CfgI.five ⟨sh, inb, sln, qu, ru, ou, st⟩ j) = true) := Lib.hid fun j hj => by
            by_cases e : j = 3
            · subst e
              simp only [okB, CfgI.five]
              rw [decide_eq_true (by omega), decide_eq_true (by omega)]
              rfl
            · exact hok.out j (by omega)
          go_wp2_with fail
          go_roundw
          case rel => exact ⟨3 + 1, by omega, rfl, trivial, hok'⟩
          case measure => simp [intOf]
    · by_cases g1 : ou < 1
      · have hbad : r = false := by
          rw [← HR.out]
          exact right_bad (I := 4) (by omega) (by simp only [okB, CfgI.five]; rw [decide_eq_false (by omega)]; rfl)
        subst hbad
        go_wp2_with fail
        go_ret
        exact ⟨rfl, HB.out⟩
      · by_cases g2 : 4096 < ou
        · have hbad : r = false := by
            rw [← HR.out]
            exact right_bad (I := 4) (by omega) (by simp only [okB, CfgI.five]; rw [decide_eq_false (p := ou ≤ 4096) (by omega)]; simp)
          subst hbad
          go_wp2_with fail
          go_ret
          exact ⟨rfl, HB.out⟩
        · have hok' : Hid (∀ j, j < 4 + 1 → okB (CfgI.five ⟨sh, inb, sln, qu, ru, ou, st⟩ j) = true) := Lib.hid fun j hj => by
            by_cases e : j = 4
            · subst e
              simp only [okB, CfgI.five]
              rw [decide_eq_true (by omega), decide_eq_true (by omega)]
              rfl
            · exact hok.out j (by omega)
          go_wp2_with fail
          go_roundw
          case rel => exact ⟨4 + 1, by omega, rfl, trivial, hok'⟩
          case measure => simp [intOf]
    · have hg := right_good hok.out
      rw [HR.out] at hg
      have HG := Lib.hid hg
      clear hg
      go_wp2_with fail
      all_goals
        go_ret
        refine ⟨?_, HB.out⟩
        have := HG.out
        simp_all
      all_goals omega
end Go.Proofs.Ytibbnikfecilhaa
