/- Chapter 19: is a config right? -/
import Derived.Test.YtibbnikfecilhaaLgA
namespace Go.Proofs.Ytibbnikfecilhaa
open Go.RowKit
set_option linter.unusedVariables false
set_option linter.unusedSimpArgs false

/-- A config, of any numbers. -/
structure CfgI where
  sh : Int
  inb : Int
  sl : Int
  qu : Int
  ru : Int
  ou : Int
  st : Int
def okB (n : Int) : Bool := decide (1 ≤ n) && decide (n ≤ 4096)
def CfgI.five (c : CfgI) : Nat → Int
  | 0 => c.inb | 1 => c.sl | 2 => c.qu | 3 => c.ru | 4 => c.ou | _ => 0
def CfgI.rightB (c : CfgI) : Bool := (okB (c.five 0) && okB (c.five 1) && okB (c.five 2) && okB (c.five 3) && okB (c.five 4)) && (decide (1 ≤ c.sh) && decide (c.sh ≤ 15) && (decide (1 ≤ c.st) && decide (c.st ≤ 1099511627776)))
theorem right_bad {c : CfgI} {I : Nat} (h : I < 5) (hb : okB (c.five I) = false) : c.rightB = false := by
  unfold CfgI.rightB
  match I, h with
  | 0, _ => rw [hb]; simp
  | 1, _ => rw [hb]; simp
  | 2, _ => rw [hb]; simp
  | 3, _ => rw [hb]; simp
  | 4, _ => rw [hb]; simp
theorem right_good {c : CfgI} (h : ∀ j, j < 5 → okB (c.five j) = true) : c.rightB = (decide (1 ≤ c.sh) && decide (c.sh ≤ 15) && (decide (1 ≤ c.st) && decide (c.st ≤ 1099511627776))) := by
  unfold CfgI.rightB
  rw [h 0 (by omega), h 1 (by omega), h 2 (by omega), h 3 (by omega), h 4 (by omega)]
  simp
set_option maxHeartbeats 4000000 in
set_option maxRecDepth 20000 in
theorem right_any (c : CfgI) (w : World) (r : Bool) (hr : c.rightB = r) :
    Calls Try.prog 34 #[.agg #[.int .i64 c.sh, .int .i64 c.inb, .int .i64 c.sl, .int .i64 c.qu, .int .i64 c.ru, .int .i64 c.ou, .int .i64 c.st]] w fun e w' => e = .returned (.bool r) ∧ Below w.heap.size w w' := by
  obtain ⟨sh, inb, sl, qu, ru, ou, st⟩ := c
  have hb := bl_alloc (Below.refl _ w) (.cells #[.int .i64 sh, .int .i64 inb, .int .i64 sl, .int .i64 qu, .int .i64 ru, .int .i64 ou, .int .i64 st] 27)
  have HB := Lib.hid hb
  have hz := alloc_new w (.cells #[.int .i64 sh, .int .i64 inb, .int .i64 sl, .int .i64 qu, .int .i64 ru, .int .i64 ou, .int .i64 st] 27)
  have x0 := cell_of_blk (cs := [.int .i64 sh, .int .i64 inb, .int .i64 sl, .int .i64 qu, .int .i64 ru, .int .i64 ou, .int .i64 st]) hz 0
  have x1 := cell_of_blk (cs := [.int .i64 sh, .int .i64 inb, .int .i64 sl, .int .i64 qu, .int .i64 ru, .int .i64 ou, .int .i64 st]) hz 1
  have x2 := cell_of_blk (cs := [.int .i64 sh, .int .i64 inb, .int .i64 sl, .int .i64 qu, .int .i64 ru, .int .i64 ou, .int .i64 st]) hz 2
  have x3 := cell_of_blk (cs := [.int .i64 sh, .int .i64 inb, .int .i64 sl, .int .i64 qu, .int .i64 ru, .int .i64 ou, .int .i64 st]) hz 3
  have x4 := cell_of_blk (cs := [.int .i64 sh, .int .i64 inb, .int .i64 sl, .int .i64 qu, .int .i64 ru, .int .i64 ou, .int .i64 st]) hz 4
  have x5 := cell_of_blk (cs := [.int .i64 sh, .int .i64 inb, .int .i64 sl, .int .i64 qu, .int .i64 ru, .int .i64 ou, .int .i64 st]) hz 5
  have x6 := cell_of_blk (cs := [.int .i64 sh, .int .i64 inb, .int .i64 sl, .int .i64 qu, .int .i64 ru, .int .i64 ou, .int .i64 st]) hz 6
  simp only [List.getElem?_cons_zero, List.getElem?_cons_succ] at x0 x1 x2 x3 x4 x5 x6
  have HR := Lib.hid hr
  have i0 : ∀ w : World, (Instr.index 106 (.agg #[.int .i64 inb, .int .i64 sl, .int .i64 qu, .int .i64 ru, .int .i64 ou]) (.int .i64 0)).run Try.prog w = .ok (.int .i64 inb) w := fun _ => by kernel_rfl
  have i1 : ∀ w : World, (Instr.index 106 (.agg #[.int .i64 inb, .int .i64 sl, .int .i64 qu, .int .i64 ru, .int .i64 ou]) (.int .i64 1)).run Try.prog w = .ok (.int .i64 sl) w := fun _ => by kernel_rfl
  have i2 : ∀ w : World, (Instr.index 106 (.agg #[.int .i64 inb, .int .i64 sl, .int .i64 qu, .int .i64 ru, .int .i64 ou]) (.int .i64 2)).run Try.prog w = .ok (.int .i64 qu) w := fun _ => by kernel_rfl
  have i3 : ∀ w : World, (Instr.index 106 (.agg #[.int .i64 inb, .int .i64 sl, .int .i64 qu, .int .i64 ru, .int .i64 ou]) (.int .i64 3)).run Try.prog w = .ok (.int .i64 ru) w := fun _ => by kernel_rfl
  have i4 : ∀ w : World, (Instr.index 106 (.agg #[.int .i64 inb, .int .i64 sl, .int .i64 qu, .int .i64 ru, .int .i64 ou]) (.int .i64 4)).run Try.prog w = .ok (.int .i64 ou) w := fun _ => by kernel_rfl
  clear hb hz hr
  go_enter Try.func34, Try.ntmps34
  go_wp2_with fail
  go_loopw [16] (fun i wr => ∃ I : Nat, I ≤ 5 ∧ i = .int .i64 I ∧ wr = w.alloc (.cells #[.int .i64 sh, .int .i64 inb, .int .i64 sl, .int .i64 qu, .int .i64 ru, .int .i64 ou, .int .i64 st] 27) ∧ Hid (∀ j, j < I → okB (CfgI.five ⟨sh, inb, sl, qu, ru, ou, st⟩ j) = true)) (fun i _ => 5 - (intOf i).toNat)
  case atStart => exact ⟨0, by omega, rfl, rfl, Lib.hid fun j hj => absurd hj (Nat.not_lt_zero _)⟩
  case round =>
    obtain ⟨I, hI, rfl, rfl, hok⟩ := hrel
    have hcase : I = 0 ∨ I = 1 ∨ I = 2 ∨ I = 3 ∨ I = 4 ∨ I = 5 := by omega
    rcases hcase with rfl | rfl | rfl | rfl | rfl | rfl
    · by_cases g1 : inb < 1
      · have hbad : r = false := by
          rw [← HR.out]
          exact right_bad (I := 0) (by omega) (by simp only [okB, CfgI.five]; rw [decide_eq_false (by omega)]; rfl)
        subst hbad
        go_wp2_with fail
        go_ret
        exact ⟨rfl, HB.out⟩
      · by_cases g2 : 4096 < inb
        · have hbad : r = false := by
            rw [← HR.out]
            exact right_bad (I := 0) (by omega) (by simp only [okB, CfgI.five]; rw [decide_eq_false (p := inb ≤ 4096) (by omega)]; simp)
          subst hbad
          go_wp2_with fail
          go_ret
          exact ⟨rfl, HB.out⟩
        · have hok' : Hid (∀ j, j < 0 + 1 → okB (CfgI.five ⟨sh, inb, sl, qu, ru, ou, st⟩ j) = true) := Lib.hid fun j hj => by
            by_cases e : j = 0
            · subst e
              simp only [okB, CfgI.five]
              rw [decide_eq_true (by omega), decide_eq_true (by omega)]
              rfl
            · exact hok.out j (by omega)
          go_wp2_with fail
          go_roundw
          case rel => exact ⟨0 + 1, by omega, rfl, trivial, hok'⟩
          case measure => simp [intOf]
    · by_cases g1 : sl < 1
      · have hbad : r = false := by
          rw [← HR.out]
          exact right_bad (I := 1) (by omega) (by simp only [okB, CfgI.five]; rw [decide_eq_false (by omega)]; rfl)
        subst hbad
        go_wp2_with fail
        go_ret
        exact ⟨rfl, HB.out⟩
      · by_cases g2 : 4096 < sl
        · have hbad : r = false := by
            rw [← HR.out]
            exact right_bad (I := 1) (by omega) (by simp only [okB, CfgI.five]; rw [decide_eq_false (p := sl ≤ 4096) (by omega)]; simp)
          subst hbad
          go_wp2_with fail
          go_ret
          exact ⟨rfl, HB.out⟩
        · have hok' : Hid (∀ j, j < 1 + 1 → okB (CfgI.five ⟨sh, inb, sl, qu, ru, ou, st⟩ j) = true) := Lib.hid fun j hj => by
            by_cases e : j = 1
            · subst e
              simp only [okB, CfgI.five]
              rw [decide_eq_true (by omega), decide_eq_true (by omega)]
              rfl
            · exact hok.out j (by omega)
          go_wp2_with fail
          go_roundw
          case rel => exact ⟨1 + 1, by omega, rfl, trivial, hok'⟩
          case measure => simp [intOf]
    · by_cases g1 : qu < 1
      · have hbad : r = false := by
          rw [← HR.out]
          exact right_bad (I := 2) (by omega) (by simp only [okB, CfgI.five]; rw [decide_eq_false (by omega)]; rfl)
        subst hbad
        go_wp2_with fail
        go_ret
        exact ⟨rfl, HB.out⟩
      · by_cases g2 : 4096 < qu
        · have hbad : r = false := by
            rw [← HR.out]
            exact right_bad (I := 2) (by omega) (by simp only [okB, CfgI.five]; rw [decide_eq_false (p := qu ≤ 4096) (by omega)]; simp)
          subst hbad
          go_wp2_with fail
          go_ret
          exact ⟨rfl, HB.out⟩
        · have hok' : Hid (∀ j, j < 2 + 1 → okB (CfgI.five ⟨sh, inb, sl, qu, ru, ou, st⟩ j) = true) := Lib.hid fun j hj => by
            by_cases e : j = 2
            · subst e
              simp only [okB, CfgI.five]
              rw [decide_eq_true (by omega), decide_eq_true (by omega)]
              rfl
            · exact hok.out j (by omega)
          go_wp2_with fail
          go_roundw
          case rel => exact ⟨2 + 1, by omega, rfl, trivial, hok'⟩
          case measure => simp [intOf]
    · by_cases g1 : ru < 1
      · have hbad : r = false := by
          rw [← HR.out]
          exact right_bad (I := 3) (by omega) (by simp only [okB, CfgI.five]; rw [decide_eq_false (by omega)]; rfl)
        subst hbad
        go_wp2_with fail
        go_ret
        exact ⟨rfl, HB.out⟩
      · by_cases g2 : 4096 < ru
        · have hbad : r = false := by
            rw [← HR.out]
            exact right_bad (I := 3) (by omega) (by simp only [okB, CfgI.five]; rw [decide_eq_false (p := ru ≤ 4096) (by omega)]; simp)
          subst hbad
          go_wp2_with fail
          go_ret
          exact ⟨rfl, HB.out⟩
        · have hok' : Hid (∀ j, j < 3 + 1 → okB (CfgI.five ⟨sh, inb, sl, qu, ru, ou, st⟩ j) = true) := Lib.hid fun j hj => by
            by_cases e : j = 3
            · subst e
              simp only [okB, CfgI.five]
              rw [decide_eq_true (by omega), decide_eq_true (by omega)]
              rfl
            · exact hok.out j (by omega)
          go_wp2_with fail
          go_roundw
          case rel => exact ⟨3 + 1, by omega, rfl, trivial, hok'⟩
          case measure => simp [intOf]
    · by_cases g1 : ou < 1
      · have hbad : r = false := by
          rw [← HR.out]
          exact right_bad (I := 4) (by omega) (by simp only [okB, CfgI.five]; rw [decide_eq_false (by omega)]; rfl)
        subst hbad
        go_wp2_with fail
        go_ret
        exact ⟨rfl, HB.out⟩
      · by_cases g2 : 4096 < ou
        · have hbad : r = false := by
            rw [← HR.out]
            exact right_bad (I := 4) (by omega) (by simp only [okB, CfgI.five]; rw [decide_eq_false (p := ou ≤ 4096) (by omega)]; simp)
          subst hbad
          go_wp2_with fail
          go_ret
          exact ⟨rfl, HB.out⟩
        · have hok' : Hid (∀ j, j < 4 + 1 → okB (CfgI.five ⟨sh, inb, sl, qu, ru, ou, st⟩ j) = true) := Lib.hid fun j hj => by
            by_cases e : j = 4
            · subst e
              simp only [okB, CfgI.five]
              rw [decide_eq_true (by omega), decide_eq_true (by omega)]
              rfl
            · exact hok.out j (by omega)
          go_wp2_with fail
          go_roundw
          case rel => exact ⟨4 + 1, by omega, rfl, trivial, hok'⟩
          case measure => simp [intOf]
    · have hg := right_good hok.out
      rw [HR.out] at hg
      have HG := Lib.hid hg
      clear hg
      go_wp2_with fail
      all_goals
        go_ret
        refine ⟨?_, HB.out⟩
        have := HG.out
        simp_all
      all_goals omega
end Go.Proofs.Ytibbnikfecilhaa
