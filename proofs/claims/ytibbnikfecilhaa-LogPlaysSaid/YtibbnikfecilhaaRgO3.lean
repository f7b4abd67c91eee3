/- Chapter 19: the ring of sibyl/api.Out: Drop, New. (Printed by rggen.py.) -/
import Derived.Test.YtibbnikfecilhaaRgO2
namespace Go.Proofs.Ytibbnikfecilhaa
open Go.RowKit
set_option linter.unusedVariables false
set_option linter.unusedSimpArgs false

theorem oget_at {w : World} {R B n : Nat} {low : Int} {ps : List (OutV × Bool)} (h : oAt w R B n low ps) (k : Int) (hk : k ≤ 9223372036854775807) (r : OutV × Bool) (hr : oget ps low k = r) :
    Calls Try.prog 43 #[.pointer (some ⟨R, 0, none⟩), .int .i64 k] w fun e w' => e = .returned (.tuple #[.agg r.1.cells.toArray, .bool r.2]) ∧ Below w.heap.size w w' := by
  have := oget_any h k hk
  rwa [hr] at this
/-- Does a drop go? What it leaves. -/
def odrops (ps : List (OutV × Bool)) (low : Int) : Bool := (oget ps low low).2 && decide (low < 4611686018427387904)
def odrop (ps : List (OutV × Bool)) (low : Int) : List (OutV × Bool) := ps.set (low % ps.length).toNat (OutV.zero, false)
set_option maxRecDepth 20000 in
set_option maxHeartbeats 8000000 in
theorem odrop_yes {w : World} {R B n : Nat} {low : Int} {ps : List (OutV × Bool)} (h : oAt w R B n low ps) (hd : odrops ps low = true) :
    Calls Try.prog 45 #[.pointer (some ⟨R, 0, none⟩)] w fun e w' => e = .returned (.tuple #[.agg (oget ps low low).1.cells.toArray, .bool true]) ∧
      oAt w' R B n (low + 1) (odrop ps low) ∧ Only (fun b => b = R ∨ b = B) w w' := by
  have n1 := h.n1
  have l0 := h.low0
  have l1 := h.low1
  simp only [odrops, Bool.and_eq_true, decide_eq_true_eq] at hd
  obtain ⟨hd1, hlt⟩ := hd
  obtain ⟨r, hr⟩ : ∃ r, oget ps low low = r := ⟨_, rfl⟩
  obtain ⟨x, th⟩ := r
  rw [hr] at hd1 ⊢
  dsimp only at hd1 ⊢
  subst hd1
  have hget := fun W (hW : Below w.heap.size w W) => oget_at (h.below hW) low (by omega) _ hr
  have hlow := fun W (hW : Below w.heap.size w W) => olow_any (h.below hW)
  have m1 : 0 ≤ low % (n : Int) := Int.emod_nonneg _ (by omega)
  have m2 : low % (n : Int) < n := Int.emod_lt_of_pos _ (by omega)
  have hat := fun W (hW : Below w.heap.size w W) => oat_any (h.below hW) low (by omega)
  rw [optr_yes ⟨by omega, by omega⟩] at hat
  have hdl : odrop ps low = ps.set (low % (n : Int)).toNat (OutV.zero, false) := by unfold odrop; rw [h.len]
  rw [hdl]
  obtain ⟨i, hi⟩ : ∃ i, (low % (n : Int)).toNat = i := ⟨_, rfl⟩
  have hin : i < n := by omega
  rw [hi] at hat ⊢
  have hRw := block_lt h.hR
  have hBw := block_lt h.hB
  have hRB := h.ne
  have hb1 := bl_alloc (Below.refl _ w) (.cells #[.slice none 0 0, .slice none 0 0, .slice none 0 0, .slice none 0 0] 47)
  have hz := alloc_new w (.cells #[.slice none 0 0, .slice none 0 0, .slice none 0 0, .slice none 0 0] 47)
  have HGET := Lib.hid hget
  have HLOW := Lib.hid hlow
  have HAT := Lib.hid hat
  have HH := Lib.hid h
  have HB1 := Lib.hid hb1
  have HZ := Lib.hid hz
  clear hget hlow hat h hb1 hz m1 m2 hr hdl hi
  obtain ⟨la, ln, lc⟩ := x
  go_enter Try.func45, Try.ntmps45
  go_wp2_with fail
  refine (HLOW.out _ HB1.out).mono ?_
  rintro e w' ⟨rfl, rfl⟩
  go_wp2_with fail
  refine (HGET.out _ HB1.out).mono ?_
  rintro e w2 ⟨rfl, hb2⟩
  have hb02 := bl_then HB1.out hb2
  have hz2 := (hb2.block _ (block_lt HZ.out)).trans HZ.out
  have hz3 := alloc_old hz2 (.cells #[.slice none 0 0, .slice la ln lc, .slice none 0 0, .slice none 0 0] 47)
  have hx3 := alloc_new w2 (.cells #[.slice none 0 0, .slice la ln lc, .slice none 0 0, .slice none 0 0] 47)
  have hb3 := bl_alloc hb02 (.cells #[.slice none 0 0, .slice la ln lc, .slice none 0 0, .slice none 0 0] 47)
  have c1 := (HH.out.below hb3).c1
  have hlt2 := block_lt hz2
  have hsz := hb02.size
  have HZ3 := Lib.hid hz3
  have HX3 := Lib.hid hx3
  have HB3 := Lib.hid hb3
  clear hb2 hb02 hz2 hz3 hx3 hb3
  simp only [OutV.cells]
  go_wp2_with fail
  refine (HAT.out _ HB3.out).mono ?_
  rintro e w' ⟨rfl, j, rfl⟩
  obtain ⟨P, hP⟩ : ∃ P, w.heap.size = P := ⟨_, rfl⟩
  obtain ⟨Q, hQ⟩ : ∃ Q, w2.heap.size = Q := ⟨_, rfl⟩
  have ho4 : Only (fun _ => False) w ((w2.alloc (.cells #[.slice none 0 0, .slice la ln lc, .slice none 0 0, .slice none 0 0] 47)).drewN j) := (Only.of_below HB3.out).drewN j
  have hr4 : oAt ((w2.alloc (.cells #[.slice none 0 0, .slice la ln lc, .slice none 0 0, .slice none 0 0] 47)).drewN j) R B n low ps := HH.out.kept ho4 id id
  have hz4 : ((w2.alloc (.cells #[.slice none 0 0, .slice la ln lc, .slice none 0 0, .slice none 0 0] 47)).drewN j).heap[P]? = some (.cells #[.slice none 0 0, .slice none 0 0, .slice none 0 0, .slice none 0 0] 47 (0, 0)) := by rw [← hP]; exact HZ3.out
  have hx4 : ((w2.alloc (.cells #[.slice none 0 0, .slice la ln lc, .slice none 0 0, .slice none 0 0] 47)).drewN j).heap[Q]? = some (.cells #[.slice none 0 0, .slice la ln lc, .slice none 0 0, .slice none 0 0] 47 (0, 0)) := by rw [← hQ]; exact HX3.out
  simp only [hP, hQ]
  generalize (w2.alloc (.cells #[.slice none 0 0, .slice la ln lc, .slice none 0 0, .slice none 0 0] 47)).drewN j = w4 at *
  have hQB : Q ≠ B := by omega
  have hQR : Q ≠ R := by omega
  have hPB : P ≠ B := by omega
  have hPR : P ≠ R := by omega
  have hPQ : P ≠ Q := by omega
  have hBR := hRB.symm
  have hst := (hr4.stored i hin OutV.zero false).lowered (low + 1) (by omega) (by omega)
  have c1 := hr4.c1
  have fR := hr4.fR 1
  have f0 := hr4.fB
  obtain ⟨u0, z0⟩ : ∃ u, w4.cell? ⟨B, i * 5, none⟩ = some u := ⟨_, (hr4.px i hin 0 (by decide)).trans rfl⟩
  obtain ⟨u1, z1⟩ : ∃ u, w4.cell? ⟨B, i * 5 + 1, none⟩ = some u := ⟨_, (hr4.px i hin 1 (by decide)).trans rfl⟩
  obtain ⟨u2, z2⟩ : ∃ u, w4.cell? ⟨B, i * 5 + 2, none⟩ = some u := ⟨_, (hr4.px i hin 2 (by decide)).trans rfl⟩
  obtain ⟨u3, z3⟩ : ∃ u, w4.cell? ⟨B, i * 5 + 3, none⟩ = some u := ⟨_, (hr4.px i hin 3 (by decide)).trans rfl⟩
  have t4 := hr4.pt i hin
  have y0 := f0 (i * 5)
  have y1 := f0 (i * 5 + 1)
  have y2 := f0 (i * 5 + 2)
  have y3 := f0 (i * 5 + 3)
  have y4 := f0 (i * 5 + 4)
  have a0 : w4.cell? ⟨Q, 0, none⟩ = some (.slice none 0 0) := cell_of_blk (cs := [.slice none 0 0, .slice la ln lc, .slice none 0 0, .slice none 0 0]) hx4 0
  have a1 : w4.cell? ⟨Q, 1, none⟩ = some (.slice la ln lc) := cell_of_blk (cs := [.slice none 0 0, .slice la ln lc, .slice none 0 0, .slice none 0 0]) hx4 1
  have a2 : w4.cell? ⟨Q, 2, none⟩ = some (.slice none 0 0) := cell_of_blk (cs := [.slice none 0 0, .slice la ln lc, .slice none 0 0, .slice none 0 0]) hx4 2
  have a3 : w4.cell? ⟨Q, 3, none⟩ = some (.slice none 0 0) := cell_of_blk (cs := [.slice none 0 0, .slice la ln lc, .slice none 0 0, .slice none 0 0]) hx4 3
  have b0 : w4.cell? ⟨P, 0, none⟩ = some (.slice none 0 0) := cell_of_blk (cs := [.slice none 0 0, .slice none 0 0, .slice none 0 0, .slice none 0 0]) hz4 0
  have b1 : w4.cell? ⟨P, 1, none⟩ = some (.slice none 0 0) := cell_of_blk (cs := [.slice none 0 0, .slice none 0 0, .slice none 0 0, .slice none 0 0]) hz4 1
  have b2 : w4.cell? ⟨P, 2, none⟩ = some (.slice none 0 0) := cell_of_blk (cs := [.slice none 0 0, .slice none 0 0, .slice none 0 0, .slice none 0 0]) hz4 2
  have b3 : w4.cell? ⟨P, 3, none⟩ = some (.slice none 0 0) := cell_of_blk (cs := [.slice none 0 0, .slice none 0 0, .slice none 0 0, .slice none 0 0]) hz4 3
  have g0 : w4.frozen? ⟨P, 0, none⟩ = false := free_of_blk (cs := [.slice none 0 0, .slice none 0 0, .slice none 0 0, .slice none 0 0]) hz4 0
  have g1 : w4.frozen? ⟨P, 1, none⟩ = false := free_of_blk (cs := [.slice none 0 0, .slice none 0 0, .slice none 0 0, .slice none 0 0]) hz4 1
  have g2 : w4.frozen? ⟨P, 2, none⟩ = false := free_of_blk (cs := [.slice none 0 0, .slice none 0 0, .slice none 0 0, .slice none 0 0]) hz4 2
  have g3 : w4.frozen? ⟨P, 3, none⟩ = false := free_of_blk (cs := [.slice none 0 0, .slice none 0 0, .slice none 0 0, .slice none 0 0]) hz4 3
  have HST := Lib.hid hst
  have HO := Lib.hid ho4
  have HZ4 := Lib.hid hz4
  have hPw : w.heap.size ≤ P := by omega
  clear hst ho4 hr4 hz4 hx4 f0 HAT HB3 HX3 HZ3 HZ HB1 HH HLOW HGET
  go_wp2_with fail
  change bodyPost _ _ _ _ _ (olaid ((olaidp w4 B (i * 5) OutV.zero false).setCell ⟨R, 1, none⟩ (.int .i64 (low + 1))) P 0 ⟨la, ln, lc⟩)
  have ho5 : Only (fun b => b = R ∨ b = B) w4 ((olaidp w4 B (i * 5) OutV.zero false).setCell ⟨R, 1, none⟩ (.int .i64 (low + 1))) := (olaidp_only (S := fun b => b = R ∨ b = B) (.inr rfl) (Only.refl _ w4) (i * 5) OutV.zero false).setCell _ _ (.inl (.inl rfl))
  have hz5 := ho5.block HZ4.out (by rintro (h | h); exact hPR h; exact hPB h)
  have hst5 : oAt ((olaidp w4 B (i * 5) OutV.zero false).setCell ⟨R, 1, none⟩ (.int .i64 (low + 1))) R B n (low + 1) (ps.set i (OutV.zero, false)) := HST.out
  have ho50 := (HO.out.mono (T := fun b => b = R ∨ b = B) (fun _ h => h.elim)).trans ho5
  generalize (olaidp w4 B (i * 5) OutV.zero false).setCell ⟨R, 1, none⟩ (.int .i64 (low + 1)) = w5 at *
  refine bodyPost_ret (v := .tuple #[.agg (OutV.cells ⟨la, ln, lc⟩).toArray, .bool true]) ?_ rfl ⟨rfl, ?_, ?_⟩
  · exact oresults (p := 2) (u := 3) rfl _ _ P 47 (OutV.cells ⟨la, ln, lc⟩).toArray (0, 0) _ rfl (olaid_same (cs := [.slice none 0 0, .slice none 0 0, .slice none 0 0, .slice none 0 0]) (w := w5) hz5 rfl ⟨la, ln, lc⟩) Try.underlying47 rfl oinfo
  · exact hst5.kept (S := fun k => k = P) (by rw [olaid_eq]; exact puts_only (S := fun k => k = P) rfl _ _ _ _ (Only.refl _ w5)) (fun e => hPR e.symm) (fun e => hPB e.symm)
  · exact olaid_new hPw ho50 0 ⟨la, ln, lc⟩
set_option maxHeartbeats 2000000 in
theorem odrop_no {w : World} {R B n : Nat} {low : Int} {ps : List (OutV × Bool)} (h : oAt w R B n low ps) (hd : (oget ps low low).2 = false) :
    Calls Try.prog 45 #[.pointer (some ⟨R, 0, none⟩)] w fun e w' => e = .returned (.tuple #[.agg (OutV.cells OutV.zero).toArray, .bool false]) ∧ Below w.heap.size w w' := by
  have l1 := h.low1
  obtain ⟨r, hr⟩ : ∃ r, oget ps low low = r := ⟨_, rfl⟩
  obtain ⟨x, th⟩ := r
  rw [hr] at hd
  dsimp only at hd
  subst hd
  have hget := fun W (hW : Below w.heap.size w W) => oget_at (h.below hW) low (by omega) _ hr
  have hlow := fun W (hW : Below w.heap.size w W) => olow_any (h.below hW)
  have hb1 := bl_alloc (Below.refl _ w) (.cells #[.slice none 0 0, .slice none 0 0, .slice none 0 0, .slice none 0 0] 47)
  have hz := alloc_new w (.cells #[.slice none 0 0, .slice none 0 0, .slice none 0 0, .slice none 0 0] 47)
  have HGET := Lib.hid hget
  have HLOW := Lib.hid hlow
  have HB1 := Lib.hid hb1
  have HZ := Lib.hid hz
  clear hget hlow h hb1 hz hr
  obtain ⟨la, ln, lc⟩ := x
  go_enter Try.func45, Try.ntmps45
  go_wp2_with fail
  refine (HLOW.out _ HB1.out).mono ?_
  rintro e w' ⟨rfl, rfl⟩
  go_wp2_with fail
  refine (HGET.out _ HB1.out).mono ?_
  rintro e w2 ⟨rfl, hb2⟩
  have hb02 := bl_then HB1.out hb2
  have hz2 := (hb2.block _ (block_lt HZ.out)).trans HZ.out
  have hb3 := bl_alloc (bl_alloc hb02 (.cells #[.slice none 0 0, .slice la ln lc, .slice none 0 0, .slice none 0 0] 47)) (.cells #[.slice none 0 0, .slice none 0 0, .slice none 0 0, .slice none 0 0] 47)
  have hz3 := alloc_old (alloc_old hz2 (.cells #[.slice none 0 0, .slice la ln lc, .slice none 0 0, .slice none 0 0] 47)) (.cells #[.slice none 0 0, .slice none 0 0, .slice none 0 0, .slice none 0 0] 47)
  have HB3 := Lib.hid hb3
  have HZ3 := Lib.hid hz3
  have HZ2 := Lib.hid hz2
  have hPw := Nat.le_refl w.heap.size
  have hlt2 := block_lt hz2
  have b0 : w2.cell? ⟨w.heap.size, 0, none⟩ = some (.slice none 0 0) := cell_of_blk (cs := [.slice none 0 0, .slice none 0 0, .slice none 0 0, .slice none 0 0]) hz2 0
  have b1 : w2.cell? ⟨w.heap.size, 1, none⟩ = some (.slice none 0 0) := cell_of_blk (cs := [.slice none 0 0, .slice none 0 0, .slice none 0 0, .slice none 0 0]) hz2 1
  have b2 : w2.cell? ⟨w.heap.size, 2, none⟩ = some (.slice none 0 0) := cell_of_blk (cs := [.slice none 0 0, .slice none 0 0, .slice none 0 0, .slice none 0 0]) hz2 2
  have b3 : w2.cell? ⟨w.heap.size, 3, none⟩ = some (.slice none 0 0) := cell_of_blk (cs := [.slice none 0 0, .slice none 0 0, .slice none 0 0, .slice none 0 0]) hz2 3
  have g0 : w2.frozen? ⟨w.heap.size, 0, none⟩ = false := free_of_blk (cs := [.slice none 0 0, .slice none 0 0, .slice none 0 0, .slice none 0 0]) hz2 0
  have g1 : w2.frozen? ⟨w.heap.size, 1, none⟩ = false := free_of_blk (cs := [.slice none 0 0, .slice none 0 0, .slice none 0 0, .slice none 0 0]) hz2 1
  have g2 : w2.frozen? ⟨w.heap.size, 2, none⟩ = false := free_of_blk (cs := [.slice none 0 0, .slice none 0 0, .slice none 0 0, .slice none 0 0]) hz2 2
  have g3 : w2.frozen? ⟨w.heap.size, 3, none⟩ = false := free_of_blk (cs := [.slice none 0 0, .slice none 0 0, .slice none 0 0, .slice none 0 0]) hz2 3
  have HB02 := Lib.hid hb02
  clear hb2 hb02 hz2 hb3 hz3
  simp only [OutV.cells]
  go_wp2_with fail
  change bodyPost _ _ _ _ _ (((olaid w2 w.heap.size 0 OutV.zero).alloc (.cells #[.slice none 0 0, .slice la ln lc, .slice none 0 0, .slice none 0 0] 47)).alloc (.cells #[.slice none 0 0, .slice none 0 0, .slice none 0 0, .slice none 0 0] 47))
  have hb2w := HB02.out
  have hb5 : Below w.heap.size w (olaid w2 w.heap.size 0 OutV.zero) := (olaid_new (S := fun _ => False) hPw (Only.of_below hb2w) 0 OutV.zero).below (Nat.le_refl _) (fun _ h => h.elim)
  refine bodyPost_ret (v := .tuple #[.agg (OutV.cells OutV.zero).toArray, .bool false]) ?_ rfl ⟨rfl, bl_alloc (bl_alloc hb5 _) _⟩
  exact oresults (p := 2) (u := 3) rfl _ _ w.heap.size 47 (OutV.cells OutV.zero).toArray (0, 0) _ rfl (alloc_old (alloc_old (olaid_same (cs := [.slice none 0 0, .slice none 0 0, .slice none 0 0, .slice none 0 0]) (w := w2) HZ2.out rfl OutV.zero) _) _) Try.underlying47 rfl oinfo
def oz0 : Array Value := #[.slice none 0 0, .slice none 0 0, .slice none 0 0, .slice none 0 0, .bool false]
theorem ozeros (n : Nat) : ocells (List.replicate n (OutV.zero, false)) = (madeCells oz0 (n * 5)).toList :=
  (made_flat oplace 5 (by decide) oplace_len (OutV.zero, false) oz0 rfl rfl n).symm
set_option maxRecDepth 20000 in
set_option maxHeartbeats 1000000 in
theorem onew_yes (n : Nat) (w : World) (h1 : 1 ≤ n) (h2 : n ≤ 4096) :
    Calls Try.prog 38 #[.int .i64 n] w fun e w' => ∃ R B, e = .returned (.pointer (some ⟨R, 0, none⟩)) ∧ w.heap.size ≤ R ∧ w.heap.size ≤ B ∧
      oAt w' R B n 0 (List.replicate n (OutV.zero, false)) ∧ Below w.heap.size w w' := by
  have hi : ∃ i, Try.prog.info? 128 = some i ∧ i.zero = some (.agg #[.slice none 0 0, .slice none 0 0, .slice none 0 0, .slice none 0 0, .bool false]) ∧ i.size = 5 ∧ i.bytes = 104 := ⟨_, rfl, by kernel_rfl, by kernel_rfl, by kernel_rfl⟩
  obtain ⟨i, hi0, hi1, hi2, hi3⟩ := hi
  have hmk : ∀ W : World, (Instr.makeSlice 118 (.int .i64 (n : Int)) (.int .i64 (n : Int))).run Try.prog W = .ok (.slice (some ⟨W.heap.size, 0, none⟩) n n) (W.alloc (.cells (ocells (List.replicate n (OutV.zero, false))).toArray 128 (0, 0))) := by
    intro W
    have := run_make (P := Try.prog) W 118 128 i _ Try.underlying118 hi0 hi1 .i64 .i64 n n (by omega) (by omega) (by rw [hi3]; omega) (by omega)
    rw [hi2] at this
    rw [this, ozeros, oz0]
    simp [Value.cells]
  generalize hps : ocells (List.replicate n (OutV.zero, false)) = cs at *
  have HP := Lib.hid hps
  clear hps hi0 hi1 hi2 hi3
  have z1 : (1 : Int) ≤ n := by omega
  have z2 : (n : Int) ≤ 4096 := by omega
  have hnew : ∀ X : World, X = (w.alloc (.cells cs.toArray 128 (0, 0))).alloc (.cells #[.slice (some ⟨w.heap.size, 0, none⟩) n n, .int .i64 0] 120 (0, 0)) → oAt X (w.heap.size + 1) w.heap.size n 0 (List.replicate n (OutV.zero, false)) ∧ Below w.heap.size w X := by
    rintro X rfl
    refine ⟨⟨?_, ?_, by omega, by simp, h1, h2, by omega, by omega⟩, ((Below.refl _ _).alloc (Nat.le_refl _) _).alloc (by simp) _⟩
    · have := alloc_new (w.alloc (.cells cs.toArray 128 (0, 0))) (.cells #[.slice (some ⟨w.heap.size, 0, none⟩) n n, .int .i64 0] 120 (0, 0))
      rwa [World.size_alloc] at this
    · rw [HP.out]
      exact alloc_old (alloc_new w _) _
  have HN := Lib.hid hnew
  clear hnew
  go_enter Try.func38, Try.ntmps38
  go_wp2
  go_ret
  obtain ⟨k1, k2⟩ := HN.out _ rfl
  exact ⟨_, _, rfl, by omega, Nat.le_refl _, k1, k2⟩
end Go.Proofs.Ytibbnikfecilhaa
