/- Chapter 19: LogNil. (Printed by lggen.py.) -/
import Derived.Test.YtibbnikfecilhaaLgX
namespace Go.Proofs.Ytibbnikfecilhaa
open Go.RowKit
set_option linter.unusedVariables false
set_option linter.unusedSimpArgs false

theorem newNil (c : CfgI) (r : Bool) (hr : c.rightB = r) (w : World) :
    Calls Try.prog 11 #[.agg #[.int .i64 c.sh, .int .i64 c.inb, .int .i64 c.sl, .int .i64 c.qu, .int .i64 c.ru, .int .i64 c.ou, .int .i64 c.st]] w fun e w' => ∃ p, e = .returned (.pointer p) ∧ p.isSome = r ∧ Below w.heap.size w w' := by
  cases r
  · refine (newNot c hr).mono ?_
    rintro e w' ⟨rfl, hb⟩
    exact ⟨none, rfl, rfl, hb⟩
  · obtain ⟨⟨s1, s2⟩, ⟨n1, n2⟩, _⟩ := rightB_all hr
    obtain ⟨sh, inb, sl, qu, ru, ou, st⟩ := c
    simp only at s1 s2 n1 n2
    obtain ⟨sh', rfl⟩ : ∃ k : Nat, sh = k := ⟨sh.toNat, by omega⟩
    obtain ⟨inb', rfl⟩ : ∃ k : Nat, inb = k := ⟨inb.toNat, by omega⟩
    refine (newLog (w := w) ⟨sh', inb', sl, qu, ru, ou, st⟩ hr).mono ?_
    rintro e w' ⟨L, b, rfl, _, hb⟩
    exact ⟨_, rfl, rfl, hb⟩
set_option maxHeartbeats 8000000 in
set_option maxRecDepth 100000 in
theorem nil_law (sh inb sln qu ru ou st n : Int) (w : World) (hn : -9223372036854775808 ≤ n ∧ n ≤ 9223372036854775807) :
    Calls Try.prog 8 #[.agg #[.int .i64 sh, .int .i64 inb, .int .i64 sln, .int .i64 qu, .int .i64 ru, .int .i64 ou, .int .i64 st], .int .i64 n] w fun e w' => e = .returned (.bool true) ∧ Below w.heap.size w w' := by
  obtain ⟨r, hr⟩ : ∃ r, CfgI.rightB ⟨sh, inb, sln, qu, ru, ou, st⟩ = r := ⟨_, rfl⟩
  have HRR := Lib.hid fun W => refRight ⟨sh, inb, sln, qu, ru, ou, st⟩ W r hr
  have HR := Lib.hid fun W => right_any ⟨sh, inb, sln, qu, ru, ou, st⟩ W r hr
  have HN := Lib.hid fun W => newNil ⟨sh, inb, sln, qu, ru, ou, st⟩ r hr W
  have hb0 := bl_alloc (Below.refl _ w) (.cells #[.int .i64 sh, .int .i64 inb, .int .i64 sln, .int .i64 qu, .int .i64 ru, .int .i64 ou, .int .i64 st] 27)
  have hz := alloc_new w (.cells #[.int .i64 sh, .int .i64 inb, .int .i64 sln, .int .i64 qu, .int .i64 ru, .int .i64 ou, .int .i64 st] 27)
  have HB0 := Lib.hid hb0
  have HZ0 := Lib.hid hz
  have blk : ∀ W, W.heap[w.heap.size]? = some (.cells #[.int .i64 sh, .int .i64 inb, .int .i64 sln, .int .i64 qu, .int .i64 ru, .int .i64 ou, .int .i64 st] 27 (0, 0)) → ∀ W', Below W.heap.size W W' → W'.heap[w.heap.size]? = some (.cells #[.int .i64 sh, .int .i64 inb, .int .i64 sln, .int .i64 qu, .int .i64 ru, .int .i64 ou, .int .i64 st] 27 (0, 0)) := fun W h W' hb => (hb.block _ (block_lt h)).trans h
  have BLK := Lib.hid blk
  clear hb0 hz blk hr hn
  go_enter Try.func8, Try.ntmps8
  go_wp2_with fail
  refine (nilTail _).mono ?_
  rintro e w1 ⟨rfl, hb1⟩
  have HZ1 := Lib.hid (BLK.out _ HZ0.out _ hb1)
  have HB1 := Lib.hid (bl_then HB0.out hb1)
  clear hb1
  go_wp2_with fail
  refine (nilLook n _).mono ?_
  rintro e w2 ⟨rfl, hb2⟩
  have HZ2 := Lib.hid (BLK.out _ HZ1.out _ (bl_alloc hb2 (.cells #[.int .i64 0, .int .i64 0, .int .i64 0, .int .i64 0, .int .i64 0, .int .i64 0, .int .i64 0, .int .i64 0, .int .i64 0, .int .i64 0, .int .i64 0, .slice none 0 0, .int .i64 0, .bool false] 39)))
  have HB2 := Lib.hid (bl_alloc (bl_then HB1.out hb2) (.cells #[.int .i64 0, .int .i64 0, .int .i64 0, .int .i64 0, .int .i64 0, .int .i64 0, .int .i64 0, .int .i64 0, .int .i64 0, .int .i64 0, .int .i64 0, .slice none 0 0, .int .i64 0, .bool false] 39))
  clear hb2
  go_wp2_with fail
  refine (nilCollect _).mono ?_
  rintro e w3 ⟨rfl, hb3⟩
  have HZ3 := Lib.hid (BLK.out _ HZ2.out _ hb3)
  have HB3 := Lib.hid (bl_then HB2.out hb3)
  clear hb3
  go_wp2_with fail
  refine (nilAnswer n _).mono ?_
  rintro e w4 ⟨rfl, hb4⟩
  have HZ4 := Lib.hid (BLK.out _ HZ3.out _ (bl_alloc hb4 (.cells #[.int .i64 0, .int .i64 0, .slice none 0 0] 58)))
  have HB4 := Lib.hid (bl_alloc (bl_then HB3.out hb4) (.cells #[.int .i64 0, .int .i64 0, .slice none 0 0] 58))
  clear hb4
  go_wp2_with fail
  refine (nilTake n false _).mono ?_
  rintro e w5 ⟨rfl, hb5⟩
  have HZ5 := Lib.hid (BLK.out _ HZ4.out _ hb5)
  have HB5 := Lib.hid (bl_then HB4.out hb5)
  clear hb5
  go_wp2_with fail
  refine (nilFill n _).mono ?_
  rintro e w6 ⟨rfl, hb6⟩
  have HZ6 := Lib.hid (BLK.out _ HZ5.out _ hb6)
  have HB6 := Lib.hid (bl_then HB5.out hb6)
  clear hb6
  go_wp2_with fail
  refine (nilPost n _).mono ?_
  rintro e w7 ⟨rfl, hb7⟩
  have HZ7 := Lib.hid (BLK.out _ HZ6.out _ hb7)
  have HB7 := Lib.hid (bl_then HB6.out hb7)
  clear hb7
  go_wp2_with fail
  refine (nilLeave n _).mono ?_
  rintro e w8 ⟨rfl, hb8⟩
  have HZ8 := Lib.hid (BLK.out _ HZ7.out _ hb8)
  have HB8 := Lib.hid (bl_then HB7.out hb8)
  clear hb8
  go_wp2_with fail
  refine (nilReply _).mono ?_
  rintro e w9 ⟨rfl, hb9⟩
  have HZ9 := Lib.hid (BLK.out _ HZ8.out _ hb9)
  have HB9 := Lib.hid (bl_then HB8.out hb9)
  clear hb9
  go_wp2_with fail
  refine (nilCursor n _).mono ?_
  rintro e w9 ⟨rfl, rfl⟩
  go_wp2_with fail
  refine (nilLow _).mono ?_
  rintro e w9 ⟨rfl, rfl⟩
  go_wp2_with fail
  refine (nilStore _).mono ?_
  rintro e w9 ⟨rfl, rfl⟩
  go_wp2_with fail
  refine (nilEpochs _).mono ?_
  rintro e w9 ⟨rfl, rfl⟩
  have x0 : w9.cell? ⟨w.heap.size, 0, none⟩ = some (.int .i64 sh) := cell_of_blk (cs := [.int .i64 sh, .int .i64 inb, .int .i64 sln, .int .i64 qu, .int .i64 ru, .int .i64 ou, .int .i64 st]) HZ9.out 0
  have x1 : w9.cell? ⟨w.heap.size, 1, none⟩ = some (.int .i64 inb) := cell_of_blk (cs := [.int .i64 sh, .int .i64 inb, .int .i64 sln, .int .i64 qu, .int .i64 ru, .int .i64 ou, .int .i64 st]) HZ9.out 1
  have x2 : w9.cell? ⟨w.heap.size, 2, none⟩ = some (.int .i64 sln) := cell_of_blk (cs := [.int .i64 sh, .int .i64 inb, .int .i64 sln, .int .i64 qu, .int .i64 ru, .int .i64 ou, .int .i64 st]) HZ9.out 2
  have x3 : w9.cell? ⟨w.heap.size, 3, none⟩ = some (.int .i64 qu) := cell_of_blk (cs := [.int .i64 sh, .int .i64 inb, .int .i64 sln, .int .i64 qu, .int .i64 ru, .int .i64 ou, .int .i64 st]) HZ9.out 3
  have x4 : w9.cell? ⟨w.heap.size, 4, none⟩ = some (.int .i64 ru) := cell_of_blk (cs := [.int .i64 sh, .int .i64 inb, .int .i64 sln, .int .i64 qu, .int .i64 ru, .int .i64 ou, .int .i64 st]) HZ9.out 4
  have x5 : w9.cell? ⟨w.heap.size, 5, none⟩ = some (.int .i64 ou) := cell_of_blk (cs := [.int .i64 sh, .int .i64 inb, .int .i64 sln, .int .i64 qu, .int .i64 ru, .int .i64 ou, .int .i64 st]) HZ9.out 5
  have x6 : w9.cell? ⟨w.heap.size, 6, none⟩ = some (.int .i64 st) := cell_of_blk (cs := [.int .i64 sh, .int .i64 inb, .int .i64 sln, .int .i64 qu, .int .i64 ru, .int .i64 ou, .int .i64 st]) HZ9.out 6
  go_wp2_with fail
  refine (HRR.out _).mono ?_
  rintro e w10 ⟨rfl, hb10⟩
  have HZ10 := Lib.hid (BLK.out _ HZ9.out _ hb10)
  have HB10 := Lib.hid (bl_then HB9.out hb10)
  clear hb10 x0 x1 x2 x3 x4 x5 x6
  go_wp2_with fail
  refine (awake19 _).mono ?_
  rintro e w11 ⟨rfl, hb11⟩
  have HZ11 := Lib.hid (BLK.out _ HZ10.out _ hb11)
  have HB11 := Lib.hid (bl_then HB10.out hb11)
  clear hb11
  go_wp2_with fail
  refine (nilConfig _).mono ?_
  rintro e w12 ⟨rfl, hb12⟩
  have HZ12 := Lib.hid (BLK.out _ HZ11.out _ hb12)
  have HB12 := Lib.hid (bl_then HB11.out hb12)
  clear hb12
  have x0 : w12.cell? ⟨w.heap.size, 0, none⟩ = some (.int .i64 sh) := cell_of_blk (cs := [.int .i64 sh, .int .i64 inb, .int .i64 sln, .int .i64 qu, .int .i64 ru, .int .i64 ou, .int .i64 st]) HZ12.out 0
  have x1 : w12.cell? ⟨w.heap.size, 1, none⟩ = some (.int .i64 inb) := cell_of_blk (cs := [.int .i64 sh, .int .i64 inb, .int .i64 sln, .int .i64 qu, .int .i64 ru, .int .i64 ou, .int .i64 st]) HZ12.out 1
  have x2 : w12.cell? ⟨w.heap.size, 2, none⟩ = some (.int .i64 sln) := cell_of_blk (cs := [.int .i64 sh, .int .i64 inb, .int .i64 sln, .int .i64 qu, .int .i64 ru, .int .i64 ou, .int .i64 st]) HZ12.out 2
  have x3 : w12.cell? ⟨w.heap.size, 3, none⟩ = some (.int .i64 qu) := cell_of_blk (cs := [.int .i64 sh, .int .i64 inb, .int .i64 sln, .int .i64 qu, .int .i64 ru, .int .i64 ou, .int .i64 st]) HZ12.out 3
  have x4 : w12.cell? ⟨w.heap.size, 4, none⟩ = some (.int .i64 ru) := cell_of_blk (cs := [.int .i64 sh, .int .i64 inb, .int .i64 sln, .int .i64 qu, .int .i64 ru, .int .i64 ou, .int .i64 st]) HZ12.out 4
  have x5 : w12.cell? ⟨w.heap.size, 5, none⟩ = some (.int .i64 ou) := cell_of_blk (cs := [.int .i64 sh, .int .i64 inb, .int .i64 sln, .int .i64 qu, .int .i64 ru, .int .i64 ou, .int .i64 st]) HZ12.out 5
  have x6 : w12.cell? ⟨w.heap.size, 6, none⟩ = some (.int .i64 st) := cell_of_blk (cs := [.int .i64 sh, .int .i64 inb, .int .i64 sln, .int .i64 qu, .int .i64 ru, .int .i64 ou, .int .i64 st]) HZ12.out 6
  go_wp2_with fail
  refine (HR.out _).mono ?_
  rintro e w13 ⟨rfl, hb13⟩
  have HZ13 := Lib.hid (BLK.out _ HZ12.out _ hb13)
  have HB13 := Lib.hid (bl_then HB12.out hb13)
  clear hb13 x0 x1 x2 x3 x4 x5 x6
  have x0 : w13.cell? ⟨w.heap.size, 0, none⟩ = some (.int .i64 sh) := cell_of_blk (cs := [.int .i64 sh, .int .i64 inb, .int .i64 sln, .int .i64 qu, .int .i64 ru, .int .i64 ou, .int .i64 st]) HZ13.out 0
  have x1 : w13.cell? ⟨w.heap.size, 1, none⟩ = some (.int .i64 inb) := cell_of_blk (cs := [.int .i64 sh, .int .i64 inb, .int .i64 sln, .int .i64 qu, .int .i64 ru, .int .i64 ou, .int .i64 st]) HZ13.out 1
  have x2 : w13.cell? ⟨w.heap.size, 2, none⟩ = some (.int .i64 sln) := cell_of_blk (cs := [.int .i64 sh, .int .i64 inb, .int .i64 sln, .int .i64 qu, .int .i64 ru, .int .i64 ou, .int .i64 st]) HZ13.out 2
  have x3 : w13.cell? ⟨w.heap.size, 3, none⟩ = some (.int .i64 qu) := cell_of_blk (cs := [.int .i64 sh, .int .i64 inb, .int .i64 sln, .int .i64 qu, .int .i64 ru, .int .i64 ou, .int .i64 st]) HZ13.out 3
  have x4 : w13.cell? ⟨w.heap.size, 4, none⟩ = some (.int .i64 ru) := cell_of_blk (cs := [.int .i64 sh, .int .i64 inb, .int .i64 sln, .int .i64 qu, .int .i64 ru, .int .i64 ou, .int .i64 st]) HZ13.out 4
  have x5 : w13.cell? ⟨w.heap.size, 5, none⟩ = some (.int .i64 ou) := cell_of_blk (cs := [.int .i64 sh, .int .i64 inb, .int .i64 sln, .int .i64 qu, .int .i64 ru, .int .i64 ou, .int .i64 st]) HZ13.out 5
  have x6 : w13.cell? ⟨w.heap.size, 6, none⟩ = some (.int .i64 st) := cell_of_blk (cs := [.int .i64 sh, .int .i64 inb, .int .i64 sln, .int .i64 qu, .int .i64 ru, .int .i64 ou, .int .i64 st]) HZ13.out 6
  go_wp2_with fail
  refine (HN.out _).mono ?_
  rintro e w14 ⟨p, rfl, hp, hb14⟩
  have HB14 := Lib.hid (bl_then HB13.out hb14)
  clear hb14 x0 x1 x2 x3 x4 x5 x6
  cases p with
  | none =>
    obtain rfl : r = false := hp.symm
    clear hp
    go_wp2_with fail
    go_ret
    exact ⟨rfl, HB14.out⟩
  | some p =>
    obtain rfl : r = true := hp.symm
    clear hp
    go_wp2_with fail
    go_ret
    exact ⟨rfl, HB14.out⟩
end Go.Proofs.Ytibbnikfecilhaa
