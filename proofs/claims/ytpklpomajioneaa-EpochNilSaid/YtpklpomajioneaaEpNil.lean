/- Chapter 12: EpochNil. -/
import Derived.Test.YtpklpomajioneaaEpLaw
namespace Go.Proofs.Ytpklpomajioneaa
open Go.RowKit
set_option linter.unusedVariables false
set_option linter.unusedSimpArgs false

set_option maxHeartbeats 4000000 in
set_option maxRecDepth 100000 in
theorem nil_law (a sl gn : Int) (w : World) (ha : -9223372036854775808 ≤ a ∧ a ≤ 9223372036854775807) :
    Calls Try.prog 8 #[.int .i64 a, .agg #[.int .i64 sl, .int .i64 gn]] w fun e w' => e = .returned (.bool true) ∧ Below w.heap.size w w' := by
  go_enter Try.func8, Try.ntmps8
  go_wp2_with fail
  have hR0 := alloc_new w (.cells #[.int .i64 sl, .int .i64 gn] 33)
  have b0 : Below w.heap.size w (w.alloc (.cells #[.int .i64 sl, .int .i64 gn] 33)) := bl_alloc (Below.refl _ _) _
  generalize hW0 : w.alloc (.cells #[.int .i64 sl, .int .i64 gn] 33) = w0 at *
  have lR0 := block_lt hR0
  refine (new_any 3 _ (by decide) (by decide)).mono ?_
  rintro e w1 ⟨rfl, h1, b1⟩
  have hb1 := bl_then b0 b1
  have hR1 := (b1.block _ lR0).trans hR0
  have lo1 := b0.size
  have hz : w0.heap.size = w.heap.size + 1 := by rw [← hW0]; simp
  clear b0 b1 hR0 hW0
  rw [hz] at h1 lo1
  simp only [hz]
  clear hz
  go_wp2_with fail
  refine (pinned_nil a _).mono ?_
  rintro e w2 ⟨rfl, b2⟩
  have h2 := h1.below0 b2
  have hb2 := bl_then hb1 b2
  have hR2 := (b2.block _ (block_lt hR1)).trans hR1
  have r0 : w2.cell? ⟨w.heap.size, 0, none⟩ = some (.int .i64 sl) := cell_of_blk hR2 0
  have r1 : w2.cell? ⟨w.heap.size, 1, none⟩ = some (.int .i64 gn) := cell_of_blk hR2 1
  clear h1 hb1 hR1 b2
  go_wp2_with fail
  refine (pin_nil a _).mono ?_
  rintro e w3 ⟨rfl, b3⟩
  have h3 := h2.below0 b3
  have hb3 := bl_then hb2 b3
  have hR3 := (b3.block _ (block_lt hR2)).trans hR2
  have r0 : w3.cell? ⟨w.heap.size, 0, none⟩ = some (.int .i64 sl) := cell_of_blk hR3 0
  have r1 : w3.cell? ⟨w.heap.size, 1, none⟩ = some (.int .i64 gn) := cell_of_blk hR3 1
  clear h2 hb2 hR2 b3
  go_wp2_with fail
  refine (unpin_nil a _).mono ?_
  rintro e w4 ⟨rfl, b4⟩
  have h4 := h3.below0 b4
  have hb4 := bl_then hb3 b4
  have hR4 := (b4.block _ (block_lt hR3)).trans hR3
  have r0 : w4.cell? ⟨w.heap.size, 0, none⟩ = some (.int .i64 sl) := cell_of_blk hR4 0
  have r1 : w4.cell? ⟨w.heap.size, 1, none⟩ = some (.int .i64 gn) := cell_of_blk hR4 1
  clear h3 hb3 hR3 b4
  go_wp2_with fail
  refine (retire_nil a sl gn _).mono ?_
  rintro e w5 ⟨rfl, b5⟩
  have h5 := h4.below0 b5
  have hb5 := bl_then hb4 b5
  have hR5 := (b5.block _ (block_lt hR4)).trans hR4
  have r0 : w5.cell? ⟨w.heap.size, 0, none⟩ = some (.int .i64 sl) := cell_of_blk hR5 0
  have r1 : w5.cell? ⟨w.heap.size, 1, none⟩ = some (.int .i64 gn) := cell_of_blk hR5 1
  clear h4 hb4 hR4 b5
  go_wp2_with fail
  refine (advance_nil _).mono ?_
  rintro e w6 ⟨rfl, b6⟩
  have h6 := h5.below0 b6
  have hb6 := bl_then hb5 b6
  have hR6 := (b6.block _ (block_lt hR5)).trans hR5
  have r0 : w6.cell? ⟨w.heap.size, 0, none⟩ = some (.int .i64 sl) := cell_of_blk hR6 0
  have r1 : w6.cell? ⟨w.heap.size, 1, none⟩ = some (.int .i64 gn) := cell_of_blk hR6 1
  clear h5 hb5 hR5 b6
  go_wp2_with fail
  refine (ripe_nil a _).mono ?_
  rintro e w7 ⟨rfl, b7⟩
  have h7 := h6.below0 b7
  have hb7 := bl_then hb6 b7
  have hR7 := (b7.block _ (block_lt hR6)).trans hR6
  have r0 : w7.cell? ⟨w.heap.size, 0, none⟩ = some (.int .i64 sl) := cell_of_blk hR7 0
  have r1 : w7.cell? ⟨w.heap.size, 1, none⟩ = some (.int .i64 gn) := cell_of_blk hR7 1
  clear h6 hb6 hR6 b7
  go_wp2_with fail
  refine (now_nil _).mono ?_
  rintro e w8 ⟨rfl, rfl⟩
  go_wp2_with fail
  refine (limbo_nil a _).mono ?_
  rintro e w8 ⟨rfl, b8⟩
  have h8 := h7.below0 b8
  have hb8 := bl_then hb7 b8
  have hR8 := (b8.block _ (block_lt hR7)).trans hR7
  have r0 : w8.cell? ⟨w.heap.size, 0, none⟩ = some (.int .i64 sl) := cell_of_blk hR8 0
  have r1 : w8.cell? ⟨w.heap.size, 1, none⟩ = some (.int .i64 gn) := cell_of_blk hR8 1
  clear h7 hb7 hR7 b8
  by_cases hv : 0 ≤ a ∧ a < 3
  · obtain ⟨K, rfl⟩ : ∃ K : Nat, a = K := ⟨a.toNat, by omega⟩
    have hK : K < 3 := by omega
    obtain ⟨hv1, hv2⟩ := hv
    go_wp2_with fail
    refine (awake_any _).mono ?_
    rintro e w9 ⟨rfl, b9⟩
    have h9 := h8.below0 b9
    have hb9 := bl_then hb8 b9
    have hR9 := (b9.block _ (block_lt hR8)).trans hR8
    have r0 : w9.cell? ⟨w.heap.size, 0, none⟩ = some (.int .i64 sl) := cell_of_blk hR9 0
    have r1 : w9.cell? ⟨w.heap.size, 1, none⟩ = some (.int .i64 gn) := cell_of_blk hR9 1
    clear h8 hb8 hR8 b9
    go_wp2_with fail
    refine (pin_yes h9 (a := K) hK rfl).mono ?_
    rintro e wz ⟨rfl, hz, oz⟩
    go_wp2_with fail
    go_ret
    exact ⟨rfl, bl_only hb9 oz (by rintro k rfl; omega)⟩
  · have hcase : a < 0 ∨ 0 ≤ a ∧ 3 ≤ a := by omega
    have hbad : ¬ (0 ≤ a ∧ a < (3 : Nat)) := by omega
    have HB := Lib.hid hbad
    clear hv hbad
    rcases hcase with hc | ⟨hc, hc2⟩
    all_goals
      go_wp2_with fail
      refine (pinned_bad h8 a HB.out).mono ?_
      rintro e w9 ⟨rfl, b9⟩
      have h9 := h8.below0 b9
      have hb9 := bl_then hb8 b9
      have hR9 := (b9.block _ (block_lt hR8)).trans hR8
      have r0 : w9.cell? ⟨w.heap.size, 0, none⟩ = some (.int .i64 sl) := cell_of_blk hR9 0
      have r1 : w9.cell? ⟨w.heap.size, 1, none⟩ = some (.int .i64 gn) := cell_of_blk hR9 1
      clear h8 hb8 hR8 b9
      go_wp2_with fail
      refine (awake_any _).mono ?_
      rintro e w10 ⟨rfl, b10⟩
      have h10 := h9.below0 b10
      have hb10 := bl_then hb9 b10
      have hR10 := (b10.block _ (block_lt hR9)).trans hR9
      have r0 : w10.cell? ⟨w.heap.size, 0, none⟩ = some (.int .i64 sl) := cell_of_blk hR10 0
      have r1 : w10.cell? ⟨w.heap.size, 1, none⟩ = some (.int .i64 gn) := cell_of_blk hR10 1
      clear h9 hb9 hR9 b10
      go_wp2_with fail
      refine (pin_bad h10 a HB.out).mono ?_
      rintro e w11 ⟨rfl, b11⟩
      have h11 := h10.below0 b11
      have hb11 := bl_then hb10 b11
      have hR11 := (b11.block _ (block_lt hR10)).trans hR10
      have r0 : w11.cell? ⟨w.heap.size, 0, none⟩ = some (.int .i64 sl) := cell_of_blk hR11 0
      have r1 : w11.cell? ⟨w.heap.size, 1, none⟩ = some (.int .i64 gn) := cell_of_blk hR11 1
      clear h10 hb10 hR10 b11
      go_wp2_with fail
      refine (unpin_bad h11 a HB.out).mono ?_
      rintro e w12 ⟨rfl, b12⟩
      have h12 := h11.below0 b12
      have hb12 := bl_then hb11 b12
      have hR12 := (b12.block _ (block_lt hR11)).trans hR11
      have r0 : w12.cell? ⟨w.heap.size, 0, none⟩ = some (.int .i64 sl) := cell_of_blk hR12 0
      have r1 : w12.cell? ⟨w.heap.size, 1, none⟩ = some (.int .i64 gn) := cell_of_blk hR12 1
      clear h11 hb11 hR11 b12
      go_wp2_with fail
      refine (retire_bad h12 a sl gn HB.out).mono ?_
      rintro e w13 ⟨rfl, b13⟩
      have h13 := h12.below0 b13
      have hb13 := bl_then hb12 b13
      have hR13 := (b13.block _ (block_lt hR12)).trans hR12
      have r0 : w13.cell? ⟨w.heap.size, 0, none⟩ = some (.int .i64 sl) := cell_of_blk hR13 0
      have r1 : w13.cell? ⟨w.heap.size, 1, none⟩ = some (.int .i64 gn) := cell_of_blk hR13 1
      clear h12 hb12 hR12 b13
      go_wp2_with fail
      refine (ripe_bad h13 a HB.out).mono ?_
      rintro e w14 ⟨rfl, b14⟩
      have h14 := h13.below0 b14
      have hb14 := bl_then hb13 b14
      have hR14 := (b14.block _ (block_lt hR13)).trans hR13
      have r0 : w14.cell? ⟨w.heap.size, 0, none⟩ = some (.int .i64 sl) := cell_of_blk hR14 0
      have r1 : w14.cell? ⟨w.heap.size, 1, none⟩ = some (.int .i64 gn) := cell_of_blk hR14 1
      clear h13 hb13 hR13 b14
      go_wp2_with fail
      refine (limbo_bad h14 a HB.out).mono ?_
      rintro e w15 ⟨rfl, b15⟩
      have h15 := h14.below0 b15
      have hb15 := bl_then hb14 b15
      have hR15 := (b15.block _ (block_lt hR14)).trans hR14
      have r0 : w15.cell? ⟨w.heap.size, 0, none⟩ = some (.int .i64 sl) := cell_of_blk hR15 0
      have r1 : w15.cell? ⟨w.heap.size, 1, none⟩ = some (.int .i64 gn) := cell_of_blk hR15 1
      clear h14 hb14 hR14 b15
      go_wp2_with fail
      go_ret
      exact ⟨rfl, hb15⟩
end Go.Proofs.Ytpklpomajioneaa
