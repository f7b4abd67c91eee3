/- Chapter 19: the ring of sibyl/api.Command: Drop, New. (Printed by rggen.py.) -/
import Derived.Test.YtibbnikfecilhaaRgC2
namespace Go.Proofs.Ytibbnikfecilhaa
open Go.RowKit
set_option linter.unusedVariables false
set_option linter.unusedSimpArgs false

theorem cget_at {w : World} {R B n : Nat} {low : Int} {ps : List (CmdV × Bool)} (h : cAt w R B n low ps) (k : Int) (hk : k ≤ 9223372036854775807) (r : CmdV × Bool) (hr : cget ps low k = r) :
    Calls Try.prog 47 #[.pointer (some ⟨R, 0, none⟩), .int .i64 k] w fun e w' => e = .returned (.tuple #[.agg r.1.cells.toArray, .bool r.2]) ∧ Below w.heap.size w w' := by
  have := cget_any h k hk
  rwa [hr] at this
/-- Does a drop go? What it leaves. -/
def cdrops (ps : List (CmdV × Bool)) (low : Int) : Bool := (cget ps low low).2 && decide (low < 4611686018427387904)
def cdrop (ps : List (CmdV × Bool)) (low : Int) : List (CmdV × Bool) := ps.set (low % ps.length).toNat (CmdV.zero, false)
set_option maxRecDepth 20000 in
set_option maxHeartbeats 8000000 in
theorem cdrop_yes {w : World} {R B n : Nat} {low : Int} {ps : List (CmdV × Bool)} (h : cAt w R B n low ps) (hd : cdrops ps low = true) :
    Calls Try.prog 44 #[.pointer (some ⟨R, 0, none⟩)] w fun e w' => e = .returned (.tuple #[.agg (cget ps low low).1.cells.toArray, .bool true]) ∧
      cAt w' R B n (low + 1) (cdrop ps low) ∧ Only (fun b => b = R ∨ b = B) w w' := by
  have n1 := h.n1
  have l0 := h.low0
  have l1 := h.low1
  simp only [cdrops, Bool.and_eq_true, decide_eq_true_eq] at hd
  obtain ⟨hd1, hlt⟩ := hd
  obtain ⟨r, hr⟩ : ∃ r, cget ps low low = r := ⟨_, rfl⟩
  obtain ⟨x, th⟩ := r
  rw [hr] at hd1 ⊢
  dsimp only at hd1 ⊢
  subst hd1
  have hget := fun W (hW : Below w.heap.size w W) => cget_at (h.below hW) low (by omega) _ hr
  have hlow := fun W (hW : Below w.heap.size w W) => clow_any (h.below hW)
  have m1 : 0 ≤ low % (n : Int) := Int.emod_nonneg _ (by omega)
  have m2 : low % (n : Int) < n := Int.emod_lt_of_pos _ (by omega)
  have hat := fun W (hW : Below w.heap.size w W) => cat_any (h.below hW) low (by omega)
  rw [cptr_yes ⟨by omega, by omega⟩] at hat
  have hdl : cdrop ps low = ps.set (low % (n : Int)).toNat (CmdV.zero, false) := by unfold cdrop; rw [h.len]
  rw [hdl]
  obtain ⟨i, hi⟩ : ∃ i, (low % (n : Int)).toNat = i := ⟨_, rfl⟩
  have hin : i < n := by omega
  rw [hi] at hat ⊢
  have hRw := block_lt h.hR
  have hBw := block_lt h.hB
  have hRB := h.ne
  have hb1 := bl_alloc (Below.refl _ w) (.cells #[.int .i64 0, .int .i64 0, .int .i64 0, .int .i64 0, .int .i64 0, .int .i64 0, .int .i64 0, .int .i64 0, .int .i64 0, .int .i64 0, .int .i64 0, .slice none 0 0, .int .i64 0, .bool false] 39)
  have hz := alloc_new w (.cells #[.int .i64 0, .int .i64 0, .int .i64 0, .int .i64 0, .int .i64 0, .int .i64 0, .int .i64 0, .int .i64 0, .int .i64 0, .int .i64 0, .int .i64 0, .slice none 0 0, .int .i64 0, .bool false] 39)
  have HGET := Lib.hid hget
  have HLOW := Lib.hid hlow
  have HAT := Lib.hid hat
  have HH := Lib.hid h
  have HB1 := Lib.hid hb1
  have HZ := Lib.hid hz
  clear hget hlow hat h hb1 hz m1 m2 hr hdl hi
  obtain ⟨kd, nn⟩ := x
  go_enter Try.func44, Try.ntmps44
  go_wp2_with fail
  refine (HLOW.out _ HB1.out).mono ?_
  rintro e w' ⟨rfl, rfl⟩
  go_wp2_with fail
  refine (HGET.out _ HB1.out).mono ?_
  rintro e w2 ⟨rfl, hb2⟩
  have hb02 := bl_then HB1.out hb2
  have hz2 := (hb2.block _ (block_lt HZ.out)).trans HZ.out
  have hz3 := alloc_old hz2 (.cells #[.int .i64 kd, .int .i64 0, .int .i64 nn, .int .i64 0, .int .i64 0, .int .i64 0, .int .i64 0, .int .i64 0, .int .i64 0, .int .i64 0, .int .i64 0, .slice none 0 0, .int .i64 0, .bool false] 39)
  have hx3 := alloc_new w2 (.cells #[.int .i64 kd, .int .i64 0, .int .i64 nn, .int .i64 0, .int .i64 0, .int .i64 0, .int .i64 0, .int .i64 0, .int .i64 0, .int .i64 0, .int .i64 0, .slice none 0 0, .int .i64 0, .bool false] 39)
  have hb3 := bl_alloc hb02 (.cells #[.int .i64 kd, .int .i64 0, .int .i64 nn, .int .i64 0, .int .i64 0, .int .i64 0, .int .i64 0, .int .i64 0, .int .i64 0, .int .i64 0, .int .i64 0, .slice none 0 0, .int .i64 0, .bool false] 39)
  have c1 := (HH.out.below hb3).c1
  have hlt2 := block_lt hz2
  have hsz := hb02.size
  have HZ3 := Lib.hid hz3
  have HX3 := Lib.hid hx3
  have HB3 := Lib.hid hb3
  clear hb2 hb02 hz2 hz3 hx3 hb3
  simp only [CmdV.cells]
  go_wp2_with fail
  refine (HAT.out _ HB3.out).mono ?_
  rintro e w' ⟨rfl, j, rfl⟩
  obtain ⟨P, hP⟩ : ∃ P, w.heap.size = P := ⟨_, rfl⟩
  obtain ⟨Q, hQ⟩ : ∃ Q, w2.heap.size = Q := ⟨_, rfl⟩
  have ho4 : Only (fun _ => False) w ((w2.alloc (.cells #[.int .i64 kd, .int .i64 0, .int .i64 nn, .int .i64 0, .int .i64 0, .int .i64 0, .int .i64 0, .int .i64 0, .int .i64 0, .int .i64 0, .int .i64 0, .slice none 0 0, .int .i64 0, .bool false] 39)).drewN j) := (Only.of_below HB3.out).drewN j
  have hr4 : cAt ((w2.alloc (.cells #[.int .i64 kd, .int .i64 0, .int .i64 nn, .int .i64 0, .int .i64 0, .int .i64 0, .int .i64 0, .int .i64 0, .int .i64 0, .int .i64 0, .int .i64 0, .slice none 0 0, .int .i64 0, .bool false] 39)).drewN j) R B n low ps := HH.out.kept ho4 id id
  have hz4 : ((w2.alloc (.cells #[.int .i64 kd, .int .i64 0, .int .i64 nn, .int .i64 0, .int .i64 0, .int .i64 0, .int .i64 0, .int .i64 0, .int .i64 0, .int .i64 0, .int .i64 0, .slice none 0 0, .int .i64 0, .bool false] 39)).drewN j).heap[P]? = some (.cells #[.int .i64 0, .int .i64 0, .int .i64 0, .int .i64 0, .int .i64 0, .int .i64 0, .int .i64 0, .int .i64 0, .int .i64 0, .int .i64 0, .int .i64 0, .slice none 0 0, .int .i64 0, .bool false] 39 (0, 0)) := by rw [← hP]; exact HZ3.out
  have hx4 : ((w2.alloc (.cells #[.int .i64 kd, .int .i64 0, .int .i64 nn, .int .i64 0, .int .i64 0, .int .i64 0, .int .i64 0, .int .i64 0, .int .i64 0, .int .i64 0, .int .i64 0, .slice none 0 0, .int .i64 0, .bool false] 39)).drewN j).heap[Q]? = some (.cells #[.int .i64 kd, .int .i64 0, .int .i64 nn, .int .i64 0, .int .i64 0, .int .i64 0, .int .i64 0, .int .i64 0, .int .i64 0, .int .i64 0, .int .i64 0, .slice none 0 0, .int .i64 0, .bool false] 39 (0, 0)) := by rw [← hQ]; exact HX3.out
  simp only [hP, hQ]
  generalize (w2.alloc (.cells #[.int .i64 kd, .int .i64 0, .int .i64 nn, .int .i64 0, .int .i64 0, .int .i64 0, .int .i64 0, .int .i64 0, .int .i64 0, .int .i64 0, .int .i64 0, .slice none 0 0, .int .i64 0, .bool false] 39)).drewN j = w4 at *
  have hQB : Q ≠ B := by omega
  have hQR : Q ≠ R := by omega
  have hPB : P ≠ B := by omega
  have hPR : P ≠ R := by omega
  have hPQ : P ≠ Q := by omega
  have hBR := hRB.symm
  have hst := (hr4.stored i hin CmdV.zero false).lowered (low + 1) (by omega) (by omega)
  have c1 := hr4.c1
  have fR := hr4.fR 1
  have f0 := hr4.fB
  obtain ⟨u0, z0⟩ : ∃ u, w4.cell? ⟨B, i * 15, none⟩ = some u := ⟨_, (hr4.px i hin 0 (by decide)).trans rfl⟩
  obtain ⟨u1, z1⟩ : ∃ u, w4.cell? ⟨B, i * 15 + 1, none⟩ = some u := ⟨_, (hr4.px i hin 1 (by decide)).trans rfl⟩
  obtain ⟨u2, z2⟩ : ∃ u, w4.cell? ⟨B, i * 15 + 2, none⟩ = some u := ⟨_, (hr4.px i hin 2 (by decide)).trans rfl⟩
  obtain ⟨u3, z3⟩ : ∃ u, w4.cell? ⟨B, i * 15 + 3, none⟩ = some u := ⟨_, (hr4.px i hin 3 (by decide)).trans rfl⟩
  obtain ⟨u4, z4⟩ : ∃ u, w4.cell? ⟨B, i * 15 + 4, none⟩ = some u := ⟨_, (hr4.px i hin 4 (by decide)).trans rfl⟩
  obtain ⟨u5, z5⟩ : ∃ u, w4.cell? ⟨B, i * 15 + 5, none⟩ = some u := ⟨_, (hr4.px i hin 5 (by decide)).trans rfl⟩
  obtain ⟨u6, z6⟩ : ∃ u, w4.cell? ⟨B, i * 15 + 6, none⟩ = some u := ⟨_, (hr4.px i hin 6 (by decide)).trans rfl⟩
  obtain ⟨u7, z7⟩ : ∃ u, w4.cell? ⟨B, i * 15 + 7, none⟩ = some u := ⟨_, (hr4.px i hin 7 (by decide)).trans rfl⟩
  obtain ⟨u8, z8⟩ : ∃ u, w4.cell? ⟨B, i * 15 + 8, none⟩ = some u := ⟨_, (hr4.px i hin 8 (by decide)).trans rfl⟩
  obtain ⟨u9, z9⟩ : ∃ u, w4.cell? ⟨B, i * 15 + 9, none⟩ = some u := ⟨_, (hr4.px i hin 9 (by decide)).trans rfl⟩
  obtain ⟨u10, z10⟩ : ∃ u, w4.cell? ⟨B, i * 15 + 10, none⟩ = some u := ⟨_, (hr4.px i hin 10 (by decide)).trans rfl⟩
  obtain ⟨u11, z11⟩ : ∃ u, w4.cell? ⟨B, i * 15 + 11, none⟩ = some u := ⟨_, (hr4.px i hin 11 (by decide)).trans rfl⟩
  obtain ⟨u12, z12⟩ : ∃ u, w4.cell? ⟨B, i * 15 + 12, none⟩ = some u := ⟨_, (hr4.px i hin 12 (by decide)).trans rfl⟩
  obtain ⟨u13, z13⟩ : ∃ u, w4.cell? ⟨B, i * 15 + 13, none⟩ = some u := ⟨_, (hr4.px i hin 13 (by decide)).trans rfl⟩
  have t14 := hr4.pt i hin
  have y0 := f0 (i * 15)
  have y1 := f0 (i * 15 + 1)
  have y2 := f0 (i * 15 + 2)
  have y3 := f0 (i * 15 + 3)
  have y4 := f0 (i * 15 + 4)
  have y5 := f0 (i * 15 + 5)
  have y6 := f0 (i * 15 + 6)
  have y7 := f0 (i * 15 + 7)
  have y8 := f0 (i * 15 + 8)
  have y9 := f0 (i * 15 + 9)
  have y10 := f0 (i * 15 + 10)
  have y11 := f0 (i * 15 + 11)
  have y12 := f0 (i * 15 + 12)
  have y13 := f0 (i * 15 + 13)
  have y14 := f0 (i * 15 + 14)
  have a0 : w4.cell? ⟨Q, 0, none⟩ = some (.int .i64 kd) := cell_of_blk (cs := [.int .i64 kd, .int .i64 0, .int .i64 nn, .int .i64 0, .int .i64 0, .int .i64 0, .int .i64 0, .int .i64 0, .int .i64 0, .int .i64 0, .int .i64 0, .slice none 0 0, .int .i64 0, .bool false]) hx4 0
  have a1 : w4.cell? ⟨Q, 1, none⟩ = some (.int .i64 0) := cell_of_blk (cs := [.int .i64 kd, .int .i64 0, .int .i64 nn, .int .i64 0, .int .i64 0, .int .i64 0, .int .i64 0, .int .i64 0, .int .i64 0, .int .i64 0, .int .i64 0, .slice none 0 0, .int .i64 0, .bool false]) hx4 1
  have a2 : w4.cell? ⟨Q, 2, none⟩ = some (.int .i64 nn) := cell_of_blk (cs := [.int .i64 kd, .int .i64 0, .int .i64 nn, .int .i64 0, .int .i64 0, .int .i64 0, .int .i64 0, .int .i64 0, .int .i64 0, .int .i64 0, .int .i64 0, .slice none 0 0, .int .i64 0, .bool false]) hx4 2
  have a3 : w4.cell? ⟨Q, 3, none⟩ = some (.int .i64 0) := cell_of_blk (cs := [.int .i64 kd, .int .i64 0, .int .i64 nn, .int .i64 0, .int .i64 0, .int .i64 0, .int .i64 0, .int .i64 0, .int .i64 0, .int .i64 0, .int .i64 0, .slice none 0 0, .int .i64 0, .bool false]) hx4 3
  have a4 : w4.cell? ⟨Q, 4, none⟩ = some (.int .i64 0) := cell_of_blk (cs := [.int .i64 kd, .int .i64 0, .int .i64 nn, .int .i64 0, .int .i64 0, .int .i64 0, .int .i64 0, .int .i64 0, .int .i64 0, .int .i64 0, .int .i64 0, .slice none 0 0, .int .i64 0, .bool false]) hx4 4
  have a5 : w4.cell? ⟨Q, 5, none⟩ = some (.int .i64 0) := cell_of_blk (cs := [.int .i64 kd, .int .i64 0, .int .i64 nn, .int .i64 0, .int .i64 0, .int .i64 0, .int .i64 0, .int .i64 0, .int .i64 0, .int .i64 0, .int .i64 0, .slice none 0 0, .int .i64 0, .bool false]) hx4 5
  have a6 : w4.cell? ⟨Q, 6, none⟩ = some (.int .i64 0) := cell_of_blk (cs := [.int .i64 kd, .int .i64 0, .int .i64 nn, .int .i64 0, .int .i64 0, .int .i64 0, .int .i64 0, .int .i64 0, .int .i64 0, .int .i64 0, .int .i64 0, .slice none 0 0, .int .i64 0, .bool false]) hx4 6
  have a7 : w4.cell? ⟨Q, 7, none⟩ = some (.int .i64 0) := cell_of_blk (cs := [.int .i64 kd, .int .i64 0, .int .i64 nn, .int .i64 0, .int .i64 0, .int .i64 0, .int .i64 0, .int .i64 0, .int .i64 0, .int .i64 0, .int .i64 0, .slice none 0 0, .int .i64 0, .bool false]) hx4 7
  have a8 : w4.cell? ⟨Q, 8, none⟩ = some (.int .i64 0) := cell_of_blk (cs := [.int .i64 kd, .int .i64 0, .int .i64 nn, .int .i64 0, .int .i64 0, .int .i64 0, .int .i64 0, .int .i64 0, .int .i64 0, .int .i64 0, .int .i64 0, .slice none 0 0, .int .i64 0, .bool false]) hx4 8
  have a9 : w4.cell? ⟨Q, 9, none⟩ = some (.int .i64 0) := cell_of_blk (cs := [.int .i64 kd, .int .i64 0, .int .i64 nn, .int .i64 0, .int .i64 0, .int .i64 0, .int .i64 0, .int .i64 0, .int .i64 0, .int .i64 0, .int .i64 0, .slice none 0 0, .int .i64 0, .bool false]) hx4 9
  have a10 : w4.cell? ⟨Q, 10, none⟩ = some (.int .i64 0) := cell_of_blk (cs := [.int .i64 kd, .int .i64 0, .int .i64 nn, .int .i64 0, .int .i64 0, .int .i64 0, .int .i64 0, .int .i64 0, .int .i64 0, .int .i64 0, .int .i64 0, .slice none 0 0, .int .i64 0, .bool false]) hx4 10
  have a11 : w4.cell? ⟨Q, 11, none⟩ = some (.slice none 0 0) := cell_of_blk (cs := [.int .i64 kd, .int .i64 0, .int .i64 nn, .int .i64 0, .int .i64 0, .int .i64 0, .int .i64 0, .int .i64 0, .int .i64 0, .int .i64 0, .int .i64 0, .slice none 0 0, .int .i64 0, .bool false]) hx4 11
  have a12 : w4.cell? ⟨Q, 12, none⟩ = some (.int .i64 0) := cell_of_blk (cs := [.int .i64 kd, .int .i64 0, .int .i64 nn, .int .i64 0, .int .i64 0, .int .i64 0, .int .i64 0, .int .i64 0, .int .i64 0, .int .i64 0, .int .i64 0, .slice none 0 0, .int .i64 0, .bool false]) hx4 12
  have a13 : w4.cell? ⟨Q, 13, none⟩ = some (.bool false) := cell_of_blk (cs := [.int .i64 kd, .int .i64 0, .int .i64 nn, .int .i64 0, .int .i64 0, .int .i64 0, .int .i64 0, .int .i64 0, .int .i64 0, .int .i64 0, .int .i64 0, .slice none 0 0, .int .i64 0, .bool false]) hx4 13
  have b0 : w4.cell? ⟨P, 0, none⟩ = some (.int .i64 0) := cell_of_blk (cs := [.int .i64 0, .int .i64 0, .int .i64 0, .int .i64 0, .int .i64 0, .int .i64 0, .int .i64 0, .int .i64 0, .int .i64 0, .int .i64 0, .int .i64 0, .slice none 0 0, .int .i64 0, .bool false]) hz4 0
  have b1 : w4.cell? ⟨P, 1, none⟩ = some (.int .i64 0) := cell_of_blk (cs := [.int .i64 0, .int .i64 0, .int .i64 0, .int .i64 0, .int .i64 0, .int .i64 0, .int .i64 0, .int .i64 0, .int .i64 0, .int .i64 0, .int .i64 0, .slice none 0 0, .int .i64 0, .bool false]) hz4 1
  have b2 : w4.cell? ⟨P, 2, none⟩ = some (.int .i64 0) := cell_of_blk (cs := [.int .i64 0, .int .i64 0, .int .i64 0, .int .i64 0, .int .i64 0, .int .i64 0, .int .i64 0, .int .i64 0, .int .i64 0, .int .i64 0, .int .i64 0, .slice none 0 0, .int .i64 0, .bool false]) hz4 2
  have b3 : w4.cell? ⟨P, 3, none⟩ = some (.int .i64 0) := cell_of_blk (cs := [.int .i64 0, .int .i64 0, .int .i64 0, .int .i64 0, .int .i64 0, .int .i64 0, .int .i64 0, .int .i64 0, .int .i64 0, .int .i64 0, .int .i64 0, .slice none 0 0, .int .i64 0, .bool false]) hz4 3
  have b4 : w4.cell? ⟨P, 4, none⟩ = some (.int .i64 0) := cell_of_blk (cs := [.int .i64 0, .int .i64 0, .int .i64 0, .int .i64 0, .int .i64 0, .int .i64 0, .int .i64 0, .int .i64 0, .int .i64 0, .int .i64 0, .int .i64 0, .slice none 0 0, .int .i64 0, .bool false]) hz4 4
  have b5 : w4.cell? ⟨P, 5, none⟩ = some (.int .i64 0) := cell_of_blk (cs := [.int .i64 0, .int .i64 0, .int .i64 0, .int .i64 0, .int .i64 0, .int .i64 0, .int .i64 0, .int .i64 0, .int .i64 0, .int .i64 0, .int .i64 0, .slice none 0 0, .int .i64 0, .bool false]) hz4 5
  have b6 : w4.cell? ⟨P, 6, none⟩ = some (.int .i64 0) := cell_of_blk (cs := [.int .i64 0, .int .i64 0, .int .i64 0, .int .i64 0, .int .i64 0, .int .i64 0, .int .i64 0, .int .i64 0, .int .i64 0, .int .i64 0, .int .i64 0, .slice none 0 0, .int .i64 0, .bool false]) hz4 6
  have b7 : w4.cell? ⟨P, 7, none⟩ = some (.int .i64 0) := cell_of_blk (cs := [.int .i64 0, .int .i64 0, .int .i64 0, .int .i64 0, .int .i64 0, .int .i64 0, .int .i64 0, .int .i64 0, .int .i64 0, .int .i64 0, .int .i64 0, .slice none 0 0, .int .i64 0, .bool false]) hz4 7
  have b8 : w4.cell? ⟨P, 8, none⟩ = some (.int .i64 0) := cell_of_blk (cs := [.int .i64 0, .int .i64 0, .int .i64 0, .int .i64 0, .int .i64 0, .int .i64 0, .int .i64 0, .int .i64 0, .int .i64 0, .int .i64 0, .int .i64 0, .slice none 0 0, .int .i64 0, .bool false]) hz4 8
  have b9 : w4.cell? ⟨P, 9, none⟩ = some (.int .i64 0) := cell_of_blk (cs := [.int .i64 0, .int .i64 0, .int .i64 0, .int .i64 0, .int .i64 0, .int .i64 0, .int .i64 0, .int .i64 0, .int .i64 0, .int .i64 0, .int .i64 0, .slice none 0 0, .int .i64 0, .bool false]) hz4 9
  have b10 : w4.cell? ⟨P, 10, none⟩ = some (.int .i64 0) := cell_of_blk (cs := [.int .i64 0, .int .i64 0, .int .i64 0, .int .i64 0, .int .i64 0, .int .i64 0, .int .i64 0, .int .i64 0, .int .i64 0, .int .i64 0, .int .i64 0, .slice none 0 0, .int .i64 0, .bool false]) hz4 10
  have b11 : w4.cell? ⟨P, 11, none⟩ = some (.slice none 0 0) := cell_of_blk (cs := [.int .i64 0, .int .i64 0, .int .i64 0, .int .i64 0, .int .i64 0, .int .i64 0, .int .i64 0, .int .i64 0, .int .i64 0, .int .i64 0, .int .i64 0, .slice none 0 0, .int .i64 0, .bool false]) hz4 11
  have b12 : w4.cell? ⟨P, 12, none⟩ = some (.int .i64 0) := cell_of_blk (cs := [.int .i64 0, .int .i64 0, .int .i64 0, .int .i64 0, .int .i64 0, .int .i64 0, .int .i64 0, .int .i64 0, .int .i64 0, .int .i64 0, .int .i64 0, .slice none 0 0, .int .i64 0, .bool false]) hz4 12
  have b13 : w4.cell? ⟨P, 13, none⟩ = some (.bool false) := cell_of_blk (cs := [.int .i64 0, .int .i64 0, .int .i64 0, .int .i64 0, .int .i64 0, .int .i64 0, .int .i64 0, .int .i64 0, .int .i64 0, .int .i64 0, .int .i64 0, .slice none 0 0, .int .i64 0, .bool false]) hz4 13
  have g0 : w4.frozen? ⟨P, 0, none⟩ = false := free_of_blk (cs := [.int .i64 0, .int .i64 0, .int .i64 0, .int .i64 0, .int .i64 0, .int .i64 0, .int .i64 0, .int .i64 0, .int .i64 0, .int .i64 0, .int .i64 0, .slice none 0 0, .int .i64 0, .bool false]) hz4 0
  have g1 : w4.frozen? ⟨P, 1, none⟩ = false := free_of_blk (cs := [.int .i64 0, .int .i64 0, .int .i64 0, .int .i64 0, .int .i64 0, .int .i64 0, .int .i64 0, .int .i64 0, .int .i64 0, .int .i64 0, .int .i64 0, .slice none 0 0, .int .i64 0, .bool false]) hz4 1
  have g2 : w4.frozen? ⟨P, 2, none⟩ = false := free_of_blk (cs := [.int .i64 0, .int .i64 0, .int .i64 0, .int .i64 0, .int .i64 0, .int .i64 0, .int .i64 0, .int .i64 0, .int .i64 0, .int .i64 0, .int .i64 0, .slice none 0 0, .int .i64 0, .bool false]) hz4 2
  have g3 : w4.frozen? ⟨P, 3, none⟩ = false := free_of_blk (cs := [.int .i64 0, .int .i64 0, .int .i64 0, .int .i64 0, .int .i64 0, .int .i64 0, .int .i64 0, .int .i64 0, .int .i64 0, .int .i64 0, .int .i64 0, .slice none 0 0, .int .i64 0, .bool false]) hz4 3
  have g4 : w4.frozen? ⟨P, 4, none⟩ = false := free_of_blk (cs := [.int .i64 0, .int .i64 0, .int .i64 0, .int .i64 0, .int .i64 0, .int .i64 0, .int .i64 0, .int .i64 0, .int .i64 0, .int .i64 0, .int .i64 0, .slice none 0 0, .int .i64 0, .bool false]) hz4 4
  have g5 : w4.frozen? ⟨P, 5, none⟩ = false := free_of_blk (cs := [.int .i64 0, .int .i64 0, .int .i64 0, .int .i64 0, .int .i64 0, .int .i64 0, .int .i64 0, .int .i64 0, .int .i64 0, .int .i64 0, .int .i64 0, .slice none 0 0, .int .i64 0, .bool false]) hz4 5
  have g6 : w4.frozen? ⟨P, 6, none⟩ = false := free_of_blk (cs := [.int .i64 0, .int .i64 0, .int .i64 0, .int .i64 0, .int .i64 0, .int .i64 0, .int .i64 0, .int .i64 0, .int .i64 0, .int .i64 0, .int .i64 0, .slice none 0 0, .int .i64 0, .bool false]) hz4 6
  have g7 : w4.frozen? ⟨P, 7, none⟩ = false := free_of_blk (cs := [.int .i64 0, .int .i64 0, .int .i64 0, .int .i64 0, .int .i64 0, .int .i64 0, .int .i64 0, .int .i64 0, .int .i64 0, .int .i64 0, .int .i64 0, .slice none 0 0, .int .i64 0, .bool false]) hz4 7
  have g8 : w4.frozen? ⟨P, 8, none⟩ = false := free_of_blk (cs := [.int .i64 0, .int .i64 0, .int .i64 0, .int .i64 0, .int .i64 0, .int .i64 0, .int .i64 0, .int .i64 0, .int .i64 0, .int .i64 0, .int .i64 0, .slice none 0 0, .int .i64 0, .bool false]) hz4 8
  have g9 : w4.frozen? ⟨P, 9, none⟩ = false := free_of_blk (cs := [.int .i64 0, .int .i64 0, .int .i64 0, .int .i64 0, .int .i64 0, .int .i64 0, .int .i64 0, .int .i64 0, .int .i64 0, .int .i64 0, .int .i64 0, .slice none 0 0, .int .i64 0, .bool false]) hz4 9
  have g10 : w4.frozen? ⟨P, 10, none⟩ = false := free_of_blk (cs := [.int .i64 0, .int .i64 0, .int .i64 0, .int .i64 0, .int .i64 0, .int .i64 0, .int .i64 0, .int .i64 0, .int .i64 0, .int .i64 0, .int .i64 0, .slice none 0 0, .int .i64 0, .bool false]) hz4 10
  have g11 : w4.frozen? ⟨P, 11, none⟩ = false := free_of_blk (cs := [.int .i64 0, .int .i64 0, .int .i64 0, .int .i64 0, .int .i64 0, .int .i64 0, .int .i64 0, .int .i64 0, .int .i64 0, .int .i64 0, .int .i64 0, .slice none 0 0, .int .i64 0, .bool false]) hz4 11
  have g12 : w4.frozen? ⟨P, 12, none⟩ = false := free_of_blk (cs := [.int .i64 0, .int .i64 0, .int .i64 0, .int .i64 0, .int .i64 0, .int .i64 0, .int .i64 0, .int .i64 0, .int .i64 0, .int .i64 0, .int .i64 0, .slice none 0 0, .int .i64 0, .bool false]) hz4 12
  have g13 : w4.frozen? ⟨P, 13, none⟩ = false := free_of_blk (cs := [.int .i64 0, .int .i64 0, .int .i64 0, .int .i64 0, .int .i64 0, .int .i64 0, .int .i64 0, .int .i64 0, .int .i64 0, .int .i64 0, .int .i64 0, .slice none 0 0, .int .i64 0, .bool false]) hz4 13
  have HST := Lib.hid hst
  have HO := Lib.hid ho4
  have HZ4 := Lib.hid hz4
  have hPw : w.heap.size ≤ P := by omega
  clear hst ho4 hr4 hz4 hx4 f0 HAT HB3 HX3 HZ3 HZ HB1 HH HLOW HGET
  go_wp2_with fail
  change bodyPost _ _ _ _ _ (claid ((claidp w4 B (i * 15) CmdV.zero false).setCell ⟨R, 1, none⟩ (.int .i64 (low + 1))) P 0 ⟨kd, nn⟩)
  have ho5 : Only (fun b => b = R ∨ b = B) w4 ((claidp w4 B (i * 15) CmdV.zero false).setCell ⟨R, 1, none⟩ (.int .i64 (low + 1))) := (claidp_only (S := fun b => b = R ∨ b = B) (.inr rfl) (Only.refl _ w4) (i * 15) CmdV.zero false).setCell _ _ (.inl (.inl rfl))
  have hz5 := ho5.block HZ4.out (by rintro (h | h); exact hPR h; exact hPB h)
  have hst5 : cAt ((claidp w4 B (i * 15) CmdV.zero false).setCell ⟨R, 1, none⟩ (.int .i64 (low + 1))) R B n (low + 1) (ps.set i (CmdV.zero, false)) := HST.out
  have ho50 := (HO.out.mono (T := fun b => b = R ∨ b = B) (fun _ h => h.elim)).trans ho5
  generalize (claidp w4 B (i * 15) CmdV.zero false).setCell ⟨R, 1, none⟩ (.int .i64 (low + 1)) = w5 at *
  refine bodyPost_ret (v := .tuple #[.agg (CmdV.cells ⟨kd, nn⟩).toArray, .bool true]) ?_ rfl ⟨rfl, ?_, ?_⟩
  · exact cresults (p := 2) (u := 3) rfl _ _ P 39 (CmdV.cells ⟨kd, nn⟩).toArray (0, 0) _ rfl (claid_same (cs := [.int .i64 0, .int .i64 0, .int .i64 0, .int .i64 0, .int .i64 0, .int .i64 0, .int .i64 0, .int .i64 0, .int .i64 0, .int .i64 0, .int .i64 0, .slice none 0 0, .int .i64 0, .bool false]) (w := w5) hz5 rfl ⟨kd, nn⟩) Try.underlying39 rfl cinfo
  · exact hst5.kept (S := fun k => k = P) (by rw [claid_eq]; exact puts_only (S := fun k => k = P) rfl _ _ _ _ (Only.refl _ w5)) (fun e => hPR e.symm) (fun e => hPB e.symm)
  · exact claid_new hPw ho50 0 ⟨kd, nn⟩
set_option maxHeartbeats 2000000 in
theorem cdrop_no {w : World} {R B n : Nat} {low : Int} {ps : List (CmdV × Bool)} (h : cAt w R B n low ps) (hd : (cget ps low low).2 = false) :
    Calls Try.prog 44 #[.pointer (some ⟨R, 0, none⟩)] w fun e w' => e = .returned (.tuple #[.agg (CmdV.cells CmdV.zero).toArray, .bool false]) ∧ Below w.heap.size w w' := by
  have l1 := h.low1
  obtain ⟨r, hr⟩ : ∃ r, cget ps low low = r := ⟨_, rfl⟩
  obtain ⟨x, th⟩ := r
  rw [hr] at hd
  dsimp only at hd
  subst hd
  have hget := fun W (hW : Below w.heap.size w W) => cget_at (h.below hW) low (by omega) _ hr
  have hlow := fun W (hW : Below w.heap.size w W) => clow_any (h.below hW)
  have hb1 := bl_alloc (Below.refl _ w) (.cells #[.int .i64 0, .int .i64 0, .int .i64 0, .int .i64 0, .int .i64 0, .int .i64 0, .int .i64 0, .int .i64 0, .int .i64 0, .int .i64 0, .int .i64 0, .slice none 0 0, .int .i64 0, .bool false] 39)
  have hz := alloc_new w (.cells #[.int .i64 0, .int .i64 0, .int .i64 0, .int .i64 0, .int .i64 0, .int .i64 0, .int .i64 0, .int .i64 0, .int .i64 0, .int .i64 0, .int .i64 0, .slice none 0 0, .int .i64 0, .bool false] 39)
  have HGET := Lib.hid hget
  have HLOW := Lib.hid hlow
  have HB1 := Lib.hid hb1
  have HZ := Lib.hid hz
  clear hget hlow h hb1 hz hr
  obtain ⟨kd, nn⟩ := x
  go_enter Try.func44, Try.ntmps44
  go_wp2_with fail
  refine (HLOW.out _ HB1.out).mono ?_
  rintro e w' ⟨rfl, rfl⟩
  go_wp2_with fail
  refine (HGET.out _ HB1.out).mono ?_
  rintro e w2 ⟨rfl, hb2⟩
  have hb02 := bl_then HB1.out hb2
  have hz2 := (hb2.block _ (block_lt HZ.out)).trans HZ.out
  have hb3 := bl_alloc (bl_alloc hb02 (.cells #[.int .i64 kd, .int .i64 0, .int .i64 nn, .int .i64 0, .int .i64 0, .int .i64 0, .int .i64 0, .int .i64 0, .int .i64 0, .int .i64 0, .int .i64 0, .slice none 0 0, .int .i64 0, .bool false] 39)) (.cells #[.int .i64 0, .int .i64 0, .int .i64 0, .int .i64 0, .int .i64 0, .int .i64 0, .int .i64 0, .int .i64 0, .int .i64 0, .int .i64 0, .int .i64 0, .slice none 0 0, .int .i64 0, .bool false] 39)
  have hz3 := alloc_old (alloc_old hz2 (.cells #[.int .i64 kd, .int .i64 0, .int .i64 nn, .int .i64 0, .int .i64 0, .int .i64 0, .int .i64 0, .int .i64 0, .int .i64 0, .int .i64 0, .int .i64 0, .slice none 0 0, .int .i64 0, .bool false] 39)) (.cells #[.int .i64 0, .int .i64 0, .int .i64 0, .int .i64 0, .int .i64 0, .int .i64 0, .int .i64 0, .int .i64 0, .int .i64 0, .int .i64 0, .int .i64 0, .slice none 0 0, .int .i64 0, .bool false] 39)
  have HB3 := Lib.hid hb3
  have HZ3 := Lib.hid hz3
  have HZ2 := Lib.hid hz2
  have hPw := Nat.le_refl w.heap.size
  have hlt2 := block_lt hz2
  have b0 : w2.cell? ⟨w.heap.size, 0, none⟩ = some (.int .i64 0) := cell_of_blk (cs := [.int .i64 0, .int .i64 0, .int .i64 0, .int .i64 0, .int .i64 0, .int .i64 0, .int .i64 0, .int .i64 0, .int .i64 0, .int .i64 0, .int .i64 0, .slice none 0 0, .int .i64 0, .bool false]) hz2 0
  have b1 : w2.cell? ⟨w.heap.size, 1, none⟩ = some (.int .i64 0) := cell_of_blk (cs := [.int .i64 0, .int .i64 0, .int .i64 0, .int .i64 0, .int .i64 0, .int .i64 0, .int .i64 0, .int .i64 0, .int .i64 0, .int .i64 0, .int .i64 0, .slice none 0 0, .int .i64 0, .bool false]) hz2 1
  have b2 : w2.cell? ⟨w.heap.size, 2, none⟩ = some (.int .i64 0) := cell_of_blk (cs := [.int .i64 0, .int .i64 0, .int .i64 0, .int .i64 0, .int .i64 0, .int .i64 0, .int .i64 0, .int .i64 0, .int .i64 0, .int .i64 0, .int .i64 0, .slice none 0 0, .int .i64 0, .bool false]) hz2 2
  have b3 : w2.cell? ⟨w.heap.size, 3, none⟩ = some (.int .i64 0) := cell_of_blk (cs := [.int .i64 0, .int .i64 0, .int .i64 0, .int .i64 0, .int .i64 0, .int .i64 0, .int .i64 0, .int .i64 0, .int .i64 0, .int .i64 0, .int .i64 0, .slice none 0 0, .int .i64 0, .bool false]) hz2 3
  have b4 : w2.cell? ⟨w.heap.size, 4, none⟩ = some (.int .i64 0) := cell_of_blk (cs := [.int .i64 0, .int .i64 0, .int .i64 0, .int .i64 0, .int .i64 0, .int .i64 0, .int .i64 0, .int .i64 0, .int .i64 0, .int .i64 0, .int .i64 0, .slice none 0 0, .int .i64 0, .bool false]) hz2 4
  have b5 : w2.cell? ⟨w.heap.size, 5, none⟩ = some (.int .i64 0) := cell_of_blk (cs := [.int .i64 0, .int .i64 0, .int .i64 0, .int .i64 0, .int .i64 0, .int .i64 0, .int .i64 0, .int .i64 0, .int .i64 0, .int .i64 0, .int .i64 0, .slice none 0 0, .int .i64 0, .bool false]) hz2 5
  have b6 : w2.cell? ⟨w.heap.size, 6, none⟩ = some (.int .i64 0) := cell_of_blk (cs := [.int .i64 0, .int .i64 0, .int .i64 0, .int .i64 0, .int .i64 0, .int .i64 0, .int .i64 0, .int .i64 0, .int .i64 0, .int .i64 0, .int .i64 0, .slice none 0 0, .int .i64 0, .bool false]) hz2 6
  have b7 : w2.cell? ⟨w.heap.size, 7, none⟩ = some (.int .i64 0) := cell_of_blk (cs := [.int .i64 0, .int .i64 0, .int .i64 0, .int .i64 0, .int .i64 0, .int .i64 0, .int .i64 0, .int .i64 0, .int .i64 0, .int .i64 0, .int .i64 0, .slice none 0 0, .int .i64 0, .bool false]) hz2 7
  have b8 : w2.cell? ⟨w.heap.size, 8, none⟩ = some (.int .i64 0) := cell_of_blk (cs := [.int .i64 0, .int .i64 0, .int .i64 0, .int .i64 0, .int .i64 0, .int .i64 0, .int .i64 0, .int .i64 0, .int .i64 0, .int .i64 0, .int .i64 0, .slice none 0 0, .int .i64 0, .bool false]) hz2 8
  have b9 : w2.cell? ⟨w.heap.size, 9, none⟩ = some (.int .i64 0) := cell_of_blk (cs := [.int .i64 0, .int .i64 0, .int .i64 0, .int .i64 0, .int .i64 0, .int .i64 0, .int .i64 0, .int .i64 0, .int .i64 0, .int .i64 0, .int .i64 0, .slice none 0 0, .int .i64 0, .bool false]) hz2 9
  have b10 : w2.cell? ⟨w.heap.size, 10, none⟩ = some (.int .i64 0) := cell_of_blk (cs := [.int .i64 0, .int .i64 0, .int .i64 0, .int .i64 0, .int .i64 0, .int .i64 0, .int .i64 0, .int .i64 0, .int .i64 0, .int .i64 0, .int .i64 0, .slice none 0 0, .int .i64 0, .bool false]) hz2 10
  have b11 : w2.cell? ⟨w.heap.size, 11, none⟩ = some (.slice none 0 0) := cell_of_blk (cs := [.int .i64 0, .int .i64 0, .int .i64 0, .int .i64 0, .int .i64 0, .int .i64 0, .int .i64 0, .int .i64 0, .int .i64 0, .int .i64 0, .int .i64 0, .slice none 0 0, .int .i64 0, .bool false]) hz2 11
  have b12 : w2.cell? ⟨w.heap.size, 12, none⟩ = some (.int .i64 0) := cell_of_blk (cs := [.int .i64 0, .int .i64 0, .int .i64 0, .int .i64 0, .int .i64 0, .int .i64 0, .int .i64 0, .int .i64 0, .int .i64 0, .int .i64 0, .int .i64 0, .slice none 0 0, .int .i64 0, .bool false]) hz2 12
  have b13 : w2.cell? ⟨w.heap.size, 13, none⟩ = some (.bool false) := cell_of_blk (cs := [.int .i64 0, .int .i64 0, .int .i64 0, .int .i64 0, .int .i64 0, .int .i64 0, .int .i64 0, .int .i64 0, .int .i64 0, .int .i64 0, .int .i64 0, .slice none 0 0, .int .i64 0, .bool false]) hz2 13
  have g0 : w2.frozen? ⟨w.heap.size, 0, none⟩ = false := free_of_blk (cs := [.int .i64 0, .int .i64 0, .int .i64 0, .int .i64 0, .int .i64 0, .int .i64 0, .int .i64 0, .int .i64 0, .int .i64 0, .int .i64 0, .int .i64 0, .slice none 0 0, .int .i64 0, .bool false]) hz2 0
  have g1 : w2.frozen? ⟨w.heap.size, 1, none⟩ = false := free_of_blk (cs := [.int .i64 0, .int .i64 0, .int .i64 0, .int .i64 0, .int .i64 0, .int .i64 0, .int .i64 0, .int .i64 0, .int .i64 0, .int .i64 0, .int .i64 0, .slice none 0 0, .int .i64 0, .bool false]) hz2 1
  have g2 : w2.frozen? ⟨w.heap.size, 2, none⟩ = false := free_of_blk (cs := [.int .i64 0, .int .i64 0, .int .i64 0, .int .i64 0, .int .i64 0, .int .i64 0, .int .i64 0, .int .i64 0, .int .i64 0, .int .i64 0, .int .i64 0, .slice none 0 0, .int .i64 0, .bool false]) hz2 2
  have g3 : w2.frozen? ⟨w.heap.size, 3, none⟩ = false := free_of_blk (cs := [.int .i64 0, .int .i64 0, .int .i64 0, .int .i64 0, .int .i64 0, .int .i64 0, .int .i64 0, .int .i64 0, .int .i64 0, .int .i64 0, .int .i64 0, .slice none 0 0, .int .i64 0, .bool false]) hz2 3
  have g4 : w2.frozen? ⟨w.heap.size, 4, none⟩ = false := free_of_blk (cs := [.int .i64 0, .int .i64 0, .int .i64 0, .int .i64 0, .int .i64 0, .int .i64 0, .int .i64 0, .int .i64 0, .int .i64 0, .int .i64 0, .int .i64 0, .slice none 0 0, .int .i64 0, .bool false]) hz2 4
  have g5 : w2.frozen? ⟨w.heap.size, 5, none⟩ = false := free_of_blk (cs := [.int .i64 0, .int .i64 0, .int .i64 0, .int .i64 0, .int .i64 0, .int .i64 0, .int .i64 0, .int .i64 0, .int .i64 0, .int .i64 0, .int .i64 0, .slice none 0 0, .int .i64 0, .bool false]) hz2 5
  have g6 : w2.frozen? ⟨w.heap.size, 6, none⟩ = false := free_of_blk (cs := [.int .i64 0, .int .i64 0, .int .i64 0, .int .i64 0, .int .i64 0, .int .i64 0, .int .i64 0, .int .i64 0, .int .i64 0, .int .i64 0, .int .i64 0, .slice none 0 0, .int .i64 0, .bool false]) hz2 6
  have g7 : w2.frozen? ⟨w.heap.size, 7, none⟩ = false := free_of_blk (cs := [.int .i64 0, .int .i64 0, .int .i64 0, .int .i64 0, .int .i64 0, .int .i64 0, .int .i64 0, .int .i64 0, .int .i64 0, .int .i64 0, .int .i64 0, .slice none 0 0, .int .i64 0, .bool false]) hz2 7
  have g8 : w2.frozen? ⟨w.heap.size, 8, none⟩ = false := free_of_blk (cs := [.int .i64 0, .int .i64 0, .int .i64 0, .int .i64 0, .int .i64 0, .int .i64 0, .int .i64 0, .int .i64 0, .int .i64 0, .int .i64 0, .int .i64 0, .slice none 0 0, .int .i64 0, .bool false]) hz2 8
  have g9 : w2.frozen? ⟨w.heap.size, 9, none⟩ = false := free_of_blk (cs := [.int .i64 0, .int .i64 0, .int .i64 0, .int .i64 0, .int .i64 0, .int .i64 0, .int .i64 0, .int .i64 0, .int .i64 0, .int .i64 0, .int .i64 0, .slice none 0 0, .int .i64 0, .bool false]) hz2 9
  have g10 : w2.frozen? ⟨w.heap.size, 10, none⟩ = false := free_of_blk (cs := [.int .i64 0, .int .i64 0, .int .i64 0, .int .i64 0, .int .i64 0, .int .i64 0, .int .i64 0, .int .i64 0, .int .i64 0, .int .i64 0, .int .i64 0, .slice none 0 0, .int .i64 0, .bool false]) hz2 10
  have g11 : w2.frozen? ⟨w.heap.size, 11, none⟩ = false := free_of_blk (cs := [.int .i64 0, .int .i64 0, .int .i64 0, .int .i64 0, .int .i64 0, .int .i64 0, .int .i64 0, .int .i64 0, .int .i64 0, .int .i64 0, .int .i64 0, .slice none 0 0, .int .i64 0, .bool false]) hz2 11
  have g12 : w2.frozen? ⟨w.heap.size, 12, none⟩ = false := free_of_blk (cs := [.int .i64 0, .int .i64 0, .int .i64 0, .int .i64 0, .int .i64 0, .int .i64 0, .int .i64 0, .int .i64 0, .int .i64 0, .int .i64 0, .int .i64 0, .slice none 0 0, .int .i64 0, .bool false]) hz2 12
  have g13 : w2.frozen? ⟨w.heap.size, 13, none⟩ = false := free_of_blk (cs := [.int .i64 0, .int .i64 0, .int .i64 0, .int .i64 0, .int .i64 0, .int .i64 0, .int .i64 0, .int .i64 0, .int .i64 0, .int .i64 0, .int .i64 0, .slice none 0 0, .int .i64 0, .bool false]) hz2 13
  have HB02 := Lib.hid hb02
  clear hb2 hb02 hz2 hb3 hz3
  simp only [CmdV.cells]
  go_wp2_with fail
  change bodyPost _ _ _ _ _ (((claid w2 w.heap.size 0 CmdV.zero).alloc (.cells #[.int .i64 kd, .int .i64 0, .int .i64 nn, .int .i64 0, .int .i64 0, .int .i64 0, .int .i64 0, .int .i64 0, .int .i64 0, .int .i64 0, .int .i64 0, .slice none 0 0, .int .i64 0, .bool false] 39)).alloc (.cells #[.int .i64 0, .int .i64 0, .int .i64 0, .int .i64 0, .int .i64 0, .int .i64 0, .int .i64 0, .int .i64 0, .int .i64 0, .int .i64 0, .int .i64 0, .slice none 0 0, .int .i64 0, .bool false] 39))
  have hb2w := HB02.out
  have hb5 : Below w.heap.size w (claid w2 w.heap.size 0 CmdV.zero) := (claid_new (S := fun _ => False) hPw (Only.of_below hb2w) 0 CmdV.zero).below (Nat.le_refl _) (fun _ h => h.elim)
  refine bodyPost_ret (v := .tuple #[.agg (CmdV.cells CmdV.zero).toArray, .bool false]) ?_ rfl ⟨rfl, bl_alloc (bl_alloc hb5 _) _⟩
  exact cresults (p := 2) (u := 3) rfl _ _ w.heap.size 39 (CmdV.cells CmdV.zero).toArray (0, 0) _ rfl (alloc_old (alloc_old (claid_same (cs := [.int .i64 0, .int .i64 0, .int .i64 0, .int .i64 0, .int .i64 0, .int .i64 0, .int .i64 0, .int .i64 0, .int .i64 0, .int .i64 0, .int .i64 0, .slice none 0 0, .int .i64 0, .bool false]) (w := w2) HZ2.out rfl CmdV.zero) _) _) Try.underlying39 rfl cinfo
def cz0 : Array Value := #[.int .i64 0, .int .i64 0, .int .i64 0, .int .i64 0, .int .i64 0, .int .i64 0, .int .i64 0, .int .i64 0, .int .i64 0, .int .i64 0, .int .i64 0, .slice none 0 0, .int .i64 0, .bool false, .bool false]
theorem czeros (n : Nat) : ccells (List.replicate n (CmdV.zero, false)) = (madeCells cz0 (n * 15)).toList :=
  (made_flat cplace 15 (by decide) cplace_len (CmdV.zero, false) cz0 rfl rfl n).symm
set_option maxRecDepth 20000 in
set_option maxHeartbeats 1000000 in
theorem cnew_yes (n : Nat) (w : World) (h1 : 1 ≤ n) (h2 : n ≤ 4096) :
    Calls Try.prog 37 #[.int .i64 n] w fun e w' => ∃ R B, e = .returned (.pointer (some ⟨R, 0, none⟩)) ∧ w.heap.size ≤ R ∧ w.heap.size ≤ B ∧
      cAt w' R B n 0 (List.replicate n (CmdV.zero, false)) ∧ Below w.heap.size w w' := by
  have hi : ∃ i, Try.prog.info? 124 = some i ∧ i.zero = some (.agg #[.int .i64 0, .int .i64 0, .int .i64 0, .int .i64 0, .int .i64 0, .int .i64 0, .int .i64 0, .int .i64 0, .int .i64 0, .int .i64 0, .int .i64 0, .slice none 0 0, .int .i64 0, .bool false, .bool false]) ∧ i.size = 15 ∧ i.bytes = 136 := ⟨_, rfl, by kernel_rfl, by kernel_rfl, by kernel_rfl⟩
  obtain ⟨i, hi0, hi1, hi2, hi3⟩ := hi
  have hmk : ∀ W : World, (Instr.makeSlice 115 (.int .i64 (n : Int)) (.int .i64 (n : Int))).run Try.prog W = .ok (.slice (some ⟨W.heap.size, 0, none⟩) n n) (W.alloc (.cells (ccells (List.replicate n (CmdV.zero, false))).toArray 124 (0, 0))) := by
    intro W
    have := run_make (P := Try.prog) W 115 124 i _ Try.underlying115 hi0 hi1 .i64 .i64 n n (by omega) (by omega) (by rw [hi3]; omega) (by omega)
    rw [hi2] at this
    rw [this, czeros, cz0]
    simp [Value.cells]
  generalize hps : ccells (List.replicate n (CmdV.zero, false)) = cs at *
  have HP := Lib.hid hps
  clear hps hi0 hi1 hi2 hi3
  have z1 : (1 : Int) ≤ n := by omega
  have z2 : (n : Int) ≤ 4096 := by omega
  have hnew : ∀ X : World, X = (w.alloc (.cells cs.toArray 124 (0, 0))).alloc (.cells #[.slice (some ⟨w.heap.size, 0, none⟩) n n, .int .i64 0] 117 (0, 0)) → cAt X (w.heap.size + 1) w.heap.size n 0 (List.replicate n (CmdV.zero, false)) ∧ Below w.heap.size w X := by
    rintro X rfl
    refine ⟨⟨?_, ?_, by omega, by simp, h1, h2, by omega, by omega⟩, ((Below.refl _ _).alloc (Nat.le_refl _) _).alloc (by simp) _⟩
    · have := alloc_new (w.alloc (.cells cs.toArray 124 (0, 0))) (.cells #[.slice (some ⟨w.heap.size, 0, none⟩) n n, .int .i64 0] 117 (0, 0))
      rwa [World.size_alloc] at this
    · rw [HP.out]
      exact alloc_old (alloc_new w _) _
  have HN := Lib.hid hnew
  clear hnew
  go_enter Try.func37, Try.ntmps37
  go_wp2
  go_ret
  obtain ⟨k1, k2⟩ := HN.out _ rfl
  exact ⟨_, _, rfl, by omega, Nat.le_refl _, k1, k2⟩
end Go.Proofs.Ytibbnikfecilhaa
