/- Chapter 19: what a log is made of: store.New, epoch.New. -/
import Derived.Test.YtibbnikfecilhaaLgR
namespace Go.Proofs.Ytibbnikfecilhaa
open Go.RowKit
set_option linter.unusedVariables false
set_option linter.unusedSimpArgs false

set_option maxRecDepth 20000 in
set_option maxHeartbeats 1000000 in
theorem storeNew (n : Nat) (w : World) (h1 : 1 ≤ n) (h2 : n ≤ 4096) :
    Calls Try.prog 35 #[.int .i64 n] w fun e w' => ∃ a, e = .returned (.pointer (some a)) ∧ Below w.heap.size w w' := by
  have hi : ∃ i, Try.prog.info? 159 = some i ∧ i.zero.isSome = true ∧ decide (i.bytes ≤ 1000) = true := ⟨_, rfl, by kernel_rfl, by kernel_rfl⟩
  obtain ⟨i, hi0, hi1, hi2⟩ := hi
  obtain ⟨z, hz⟩ := Option.isSome_iff_exists.1 hi1
  have hi3 : i.bytes ≤ 1000 := of_decide_eq_true hi2
  have hmul : i.bytes * n ≤ 1000 * 4096 := Nat.mul_le_mul hi3 h2
  have hmk : ∀ W : World, ∃ cs, (Instr.makeSlice 107 (.int .i64 (n : Int)) (.int .i64 (n : Int))).run Try.prog W = .ok (.slice (some ⟨W.heap.size, 0, none⟩) n n) (W.alloc (.cells cs 159 (0, 0))) := by
    intro W
    have := run_make (P := Try.prog) W 107 159 i _ Try.underlying107 hi0 hz .i64 .i64 n n (by omega) (by omega) (by omega) (by omega)
    exact ⟨_, this⟩
  obtain ⟨cs, hmk0⟩ := hmk w
  have z1 : (1 : Int) ≤ n := by omega
  have z2 : (n : Int) ≤ 4096 := by omega
  clear hi0 hi1 hi2 hi3 hz hmk hmul
  go_enter Try.func35, Try.ntmps35
  go_wp2_with fail
  go_ret
  exact ⟨_, rfl, bl_alloc (bl_alloc (Below.refl _ _) _) _⟩
set_option maxHeartbeats 2000000 in
theorem epochNew (n : Nat) (w : World) (h1 : 1 ≤ n) (h2 : n ≤ 16) : Calls Try.prog 36 #[.int .i64 n] w fun e w' => ∃ a, e = .returned (.pointer (some a)) ∧ Below w.heap.size w w' := by
  have d1 : decide ((n : Int) < 1) = false := decide_eq_false (by omega)
  have d2 : decide ((16 : Int) < n) = false := decide_eq_false (by omega)
  go_enter Try.func36, Try.ntmps36
  go_wp2_with fail
  go_loopw [4, 14] (fun a i wr => ∃ K : Nat, K ≤ 16 ∧ i = .int .i64 K ∧ (∃ cs : List Value, wr.heap[w.heap.size]? = some (.cells cs.toArray 114 (0, 0)) ∧ cs.length = 34) ∧ Below w.heap.size w wr) (fun _ i _ => 16 - (intOf i).toNat)
  case atStart => exact ⟨0, Nat.zero_le _, rfl, ⟨_, alloc_new w _, rfl⟩, bl_alloc (Below.refl _ _) _⟩
  case round =>
    obtain ⟨K, hK, rfl, ⟨cs, hblk, hlen⟩, hb⟩ := hrel
    by_cases hlt : K < 16
    · obtain ⟨u, cp⟩ : ∃ u, wr.cell? ⟨w.heap.size, 2 + K, none⟩ = some u := ⟨_, (cell_of_blk hblk (2 + K)).trans (List.getElem?_eq_getElem (by omega))⟩
      have fr := free_of_blk hblk (2 + K)
      have hs := setCell_same hblk (i := 2 + K) (.int .i64 (-1))
      have HSS := Lib.hid hs
      have HB := Lib.hid hb
      have HL := Lib.hid hlen
      clear hs hblk hb hlen
      go_wp2_with fail
      go_roundw
      case rel => exact ⟨K + 1, by omega, by simp, ⟨_, HSS.out, by rw [List.length_set]; exact HL.out⟩, bl_set HB.out _ _ (Nat.le_refl _)⟩
      case measure => simp [intOf]; omega
    · obtain rfl : K = 16 := by omega
      clear hlt
      go_wp2_with fail
      go_ret
      exact ⟨_, rfl, hb⟩
end Go.Proofs.Ytibbnikfecilhaa
