/- Chapter 19: the ring of sibyl/api.Command: Put, Drop, New. (Printed by rggen.py.) -/
import Derived.Test.YtibbnikfecilhaaRgC
namespace Go.Proofs.Ytibbnikfecilhaa
open Go.RowKit
set_option linter.unusedVariables false
set_option linter.unusedSimpArgs false

/-- A place, laid cell by cell. -/
def claidp (w : World) (b o : Nat) (x : CmdV) (t : Bool) : World := (claid w b o x).setCell ⟨b, o + 14, none⟩ (.bool t)
theorem claidp_eq (w : World) (b o : Nat) (x : CmdV) (t : Bool) : claidp w b o x t = puts w b o (cplace (x, t)) := rfl
theorem claidp_only {S : Nat → Prop} {b : Nat} {w0 w : World} (hb : S b) (h : Only S w0 w) (o : Nat) (x : CmdV) (t : Bool) : Only S w0 (claidp w b o x t) := by
  rw [claidp_eq]
  exact puts_only hb _ _ _ _ h
/-- Does a put go? -/
def cok (ps : List (CmdV × Bool)) (low k : Int) : Bool := decide (low ≤ k) && decide (k - low < ps.length) && !(ps.getD (k % ps.length).toNat (CmdV.zero, false)).2
def cput (ps : List (CmdV × Bool)) (k : Int) (x : CmdV) : List (CmdV × Bool) := ps.set (k % ps.length).toNat (x, true)
set_option maxHeartbeats 2000000 in
theorem cput_any {w : World} {R B n : Nat} {low : Int} {ps : List (CmdV × Bool)} (h : cAt w R B n low ps) (x : CmdV) (k : Int) (hk : k ≤ 9223372036854775807) :
    Calls Try.prog 39 #[.pointer (some ⟨R, 0, none⟩), .int .i64 k, .agg x.cells.toArray] w fun e w' => e = .returned (.bool (cok ps low k)) ∧
      cAt w' R B n low (if cok ps low k = true then cput ps k x else ps) ∧ Only (fun b => b = B) w w' := by
  have n1 := h.n1
  obtain ⟨kd, nn⟩ := x
  have hb1 := bl_alloc (Below.refl _ w) (.cells #[.int .i64 kd, .int .i64 0, .int .i64 nn, .int .i64 0, .int .i64 0, .int .i64 0, .int .i64 0, .int .i64 0, .int .i64 0, .int .i64 0, .int .i64 0, .slice none 0 0, .int .i64 0, .bool false] 39)
  have hz := alloc_new w (.cells #[.int .i64 kd, .int .i64 0, .int .i64 nn, .int .i64 0, .int .i64 0, .int .i64 0, .int .i64 0, .int .i64 0, .int .i64 0, .int .i64 0, .int .i64 0, .slice none 0 0, .int .i64 0, .bool false] 39)
  have h1 := h.below hb1
  have hat := cat_any h1 k hk
  have ho1 : Only (fun b => b = B) w (w.alloc (.cells #[.int .i64 kd, .int .i64 0, .int .i64 nn, .int .i64 0, .int .i64 0, .int .i64 0, .int .i64 0, .int .i64 0, .int .i64 0, .int .i64 0, .int .i64 0, .slice none 0 0, .int .i64 0, .bool false] 39)) := (Only.refl _ w).alloc _
  change Calls Try.prog 39 #[.pointer (some ⟨R, 0, none⟩), .int .i64 k, .agg #[.int .i64 kd, .int .i64 0, .int .i64 nn, .int .i64 0, .int .i64 0, .int .i64 0, .int .i64 0, .int .i64 0, .int .i64 0, .int .i64 0, .int .i64 0, .slice none 0 0, .int .i64 0, .bool false]] w _
  unfold cok cput
  rw [h.len]
  by_cases g : low ≤ k ∧ k - low < n
  · rw [cptr_yes g] at hat
    have m1 : 0 ≤ k % (n : Int) := Int.emod_nonneg _ (by omega)
    have m2 : k % (n : Int) < n := Int.emod_lt_of_pos _ (by omega)
    obtain ⟨i, hi⟩ : ∃ i, (k % (n : Int)).toNat = i := ⟨_, rfl⟩
    have hin : i < n := by omega
    rw [hi] at hat ⊢
    have ht := h1.pt i hin
    have dg : (decide (low ≤ k) && decide (k - low < n)) = true := by simp [g.1, g.2]
    rw [dg]
    have hst := fun j => (h1.drewN j).stored i hin ⟨kd, nn⟩ true
    have f0 := h1.fB
    have hBw := block_lt h.hB
    have hne : w.heap.size ≠ B := by omega
    cases hth : (ps.getD i (CmdV.zero, false)).2
    · rw [hth] at ht
      have x0 : (w.alloc (.cells #[.int .i64 kd, .int .i64 0, .int .i64 nn, .int .i64 0, .int .i64 0, .int .i64 0, .int .i64 0, .int .i64 0, .int .i64 0, .int .i64 0, .int .i64 0, .slice none 0 0, .int .i64 0, .bool false] 39)).cell? ⟨w.heap.size, 0, none⟩ = some (.int .i64 kd) := cell_of_blk (cs := [.int .i64 kd, .int .i64 0, .int .i64 nn, .int .i64 0, .int .i64 0, .int .i64 0, .int .i64 0, .int .i64 0, .int .i64 0, .int .i64 0, .int .i64 0, .slice none 0 0, .int .i64 0, .bool false]) hz 0
      have x1 : (w.alloc (.cells #[.int .i64 kd, .int .i64 0, .int .i64 nn, .int .i64 0, .int .i64 0, .int .i64 0, .int .i64 0, .int .i64 0, .int .i64 0, .int .i64 0, .int .i64 0, .slice none 0 0, .int .i64 0, .bool false] 39)).cell? ⟨w.heap.size, 1, none⟩ = some (.int .i64 0) := cell_of_blk (cs := [.int .i64 kd, .int .i64 0, .int .i64 nn, .int .i64 0, .int .i64 0, .int .i64 0, .int .i64 0, .int .i64 0, .int .i64 0, .int .i64 0, .int .i64 0, .slice none 0 0, .int .i64 0, .bool false]) hz 1
      have x2 : (w.alloc (.cells #[.int .i64 kd, .int .i64 0, .int .i64 nn, .int .i64 0, .int .i64 0, .int .i64 0, .int .i64 0, .int .i64 0, .int .i64 0, .int .i64 0, .int .i64 0, .slice none 0 0, .int .i64 0, .bool false] 39)).cell? ⟨w.heap.size, 2, none⟩ = some (.int .i64 nn) := cell_of_blk (cs := [.int .i64 kd, .int .i64 0, .int .i64 nn, .int .i64 0, .int .i64 0, .int .i64 0, .int .i64 0, .int .i64 0, .int .i64 0, .int .i64 0, .int .i64 0, .slice none 0 0, .int .i64 0, .bool false]) hz 2
      have x3 : (w.alloc (.cells #[.int .i64 kd, .int .i64 0, .int .i64 nn, .int .i64 0, .int .i64 0, .int .i64 0, .int .i64 0, .int .i64 0, .int .i64 0, .int .i64 0, .int .i64 0, .slice none 0 0, .int .i64 0, .bool false] 39)).cell? ⟨w.heap.size, 3, none⟩ = some (.int .i64 0) := cell_of_blk (cs := [.int .i64 kd, .int .i64 0, .int .i64 nn, .int .i64 0, .int .i64 0, .int .i64 0, .int .i64 0, .int .i64 0, .int .i64 0, .int .i64 0, .int .i64 0, .slice none 0 0, .int .i64 0, .bool false]) hz 3
      have x4 : (w.alloc (.cells #[.int .i64 kd, .int .i64 0, .int .i64 nn, .int .i64 0, .int .i64 0, .int .i64 0, .int .i64 0, .int .i64 0, .int .i64 0, .int .i64 0, .int .i64 0, .slice none 0 0, .int .i64 0, .bool false] 39)).cell? ⟨w.heap.size, 4, none⟩ = some (.int .i64 0) := cell_of_blk (cs := [.int .i64 kd, .int .i64 0, .int .i64 nn, .int .i64 0, .int .i64 0, .int .i64 0, .int .i64 0, .int .i64 0, .int .i64 0, .int .i64 0, .int .i64 0, .slice none 0 0, .int .i64 0, .bool false]) hz 4
      have x5 : (w.alloc (.cells #[.int .i64 kd, .int .i64 0, .int .i64 nn, .int .i64 0, .int .i64 0, .int .i64 0, .int .i64 0, .int .i64 0, .int .i64 0, .int .i64 0, .int .i64 0, .slice none 0 0, .int .i64 0, .bool false] 39)).cell? ⟨w.heap.size, 5, none⟩ = some (.int .i64 0) := cell_of_blk (cs := [.int .i64 kd, .int .i64 0, .int .i64 nn, .int .i64 0, .int .i64 0, .int .i64 0, .int .i64 0, .int .i64 0, .int .i64 0, .int .i64 0, .int .i64 0, .slice none 0 0, .int .i64 0, .bool false]) hz 5
      have x6 : (w.alloc (.cells #[.int .i64 kd, .int .i64 0, .int .i64 nn, .int .i64 0, .int .i64 0, .int .i64 0, .int .i64 0, .int .i64 0, .int .i64 0, .int .i64 0, .int .i64 0, .slice none 0 0, .int .i64 0, .bool false] 39)).cell? ⟨w.heap.size, 6, none⟩ = some (.int .i64 0) := cell_of_blk (cs := [.int .i64 kd, .int .i64 0, .int .i64 nn, .int .i64 0, .int .i64 0, .int .i64 0, .int .i64 0, .int .i64 0, .int .i64 0, .int .i64 0, .int .i64 0, .slice none 0 0, .int .i64 0, .bool false]) hz 6
      have x7 : (w.alloc (.cells #[.int .i64 kd, .int .i64 0, .int .i64 nn, .int .i64 0, .int .i64 0, .int .i64 0, .int .i64 0, .int .i64 0, .int .i64 0, .int .i64 0, .int .i64 0, .slice none 0 0, .int .i64 0, .bool false] 39)).cell? ⟨w.heap.size, 7, none⟩ = some (.int .i64 0) := cell_of_blk (cs := [.int .i64 kd, .int .i64 0, .int .i64 nn, .int .i64 0, .int .i64 0, .int .i64 0, .int .i64 0, .int .i64 0, .int .i64 0, .int .i64 0, .int .i64 0, .slice none 0 0, .int .i64 0, .bool false]) hz 7
      have x8 : (w.alloc (.cells #[.int .i64 kd, .int .i64 0, .int .i64 nn, .int .i64 0, .int .i64 0, .int .i64 0, .int .i64 0, .int .i64 0, .int .i64 0, .int .i64 0, .int .i64 0, .slice none 0 0, .int .i64 0, .bool false] 39)).cell? ⟨w.heap.size, 8, none⟩ = some (.int .i64 0) := cell_of_blk (cs := [.int .i64 kd, .int .i64 0, .int .i64 nn, .int .i64 0, .int .i64 0, .int .i64 0, .int .i64 0, .int .i64 0, .int .i64 0, .int .i64 0, .int .i64 0, .slice none 0 0, .int .i64 0, .bool false]) hz 8
      have x9 : (w.alloc (.cells #[.int .i64 kd, .int .i64 0, .int .i64 nn, .int .i64 0, .int .i64 0, .int .i64 0, .int .i64 0, .int .i64 0, .int .i64 0, .int .i64 0, .int .i64 0, .slice none 0 0, .int .i64 0, .bool false] 39)).cell? ⟨w.heap.size, 9, none⟩ = some (.int .i64 0) := cell_of_blk (cs := [.int .i64 kd, .int .i64 0, .int .i64 nn, .int .i64 0, .int .i64 0, .int .i64 0, .int .i64 0, .int .i64 0, .int .i64 0, .int .i64 0, .int .i64 0, .slice none 0 0, .int .i64 0, .bool false]) hz 9
      have x10 : (w.alloc (.cells #[.int .i64 kd, .int .i64 0, .int .i64 nn, .int .i64 0, .int .i64 0, .int .i64 0, .int .i64 0, .int .i64 0, .int .i64 0, .int .i64 0, .int .i64 0, .slice none 0 0, .int .i64 0, .bool false] 39)).cell? ⟨w.heap.size, 10, none⟩ = some (.int .i64 0) := cell_of_blk (cs := [.int .i64 kd, .int .i64 0, .int .i64 nn, .int .i64 0, .int .i64 0, .int .i64 0, .int .i64 0, .int .i64 0, .int .i64 0, .int .i64 0, .int .i64 0, .slice none 0 0, .int .i64 0, .bool false]) hz 10
      have x11 : (w.alloc (.cells #[.int .i64 kd, .int .i64 0, .int .i64 nn, .int .i64 0, .int .i64 0, .int .i64 0, .int .i64 0, .int .i64 0, .int .i64 0, .int .i64 0, .int .i64 0, .slice none 0 0, .int .i64 0, .bool false] 39)).cell? ⟨w.heap.size, 11, none⟩ = some (.slice none 0 0) := cell_of_blk (cs := [.int .i64 kd, .int .i64 0, .int .i64 nn, .int .i64 0, .int .i64 0, .int .i64 0, .int .i64 0, .int .i64 0, .int .i64 0, .int .i64 0, .int .i64 0, .slice none 0 0, .int .i64 0, .bool false]) hz 11
      have x12 : (w.alloc (.cells #[.int .i64 kd, .int .i64 0, .int .i64 nn, .int .i64 0, .int .i64 0, .int .i64 0, .int .i64 0, .int .i64 0, .int .i64 0, .int .i64 0, .int .i64 0, .slice none 0 0, .int .i64 0, .bool false] 39)).cell? ⟨w.heap.size, 12, none⟩ = some (.int .i64 0) := cell_of_blk (cs := [.int .i64 kd, .int .i64 0, .int .i64 nn, .int .i64 0, .int .i64 0, .int .i64 0, .int .i64 0, .int .i64 0, .int .i64 0, .int .i64 0, .int .i64 0, .slice none 0 0, .int .i64 0, .bool false]) hz 12
      have x13 : (w.alloc (.cells #[.int .i64 kd, .int .i64 0, .int .i64 nn, .int .i64 0, .int .i64 0, .int .i64 0, .int .i64 0, .int .i64 0, .int .i64 0, .int .i64 0, .int .i64 0, .slice none 0 0, .int .i64 0, .bool false] 39)).cell? ⟨w.heap.size, 13, none⟩ = some (.bool false) := cell_of_blk (cs := [.int .i64 kd, .int .i64 0, .int .i64 nn, .int .i64 0, .int .i64 0, .int .i64 0, .int .i64 0, .int .i64 0, .int .i64 0, .int .i64 0, .int .i64 0, .slice none 0 0, .int .i64 0, .bool false]) hz 13
      have H := Lib.hid hat
      have HST := Lib.hid hst
      have HO := Lib.hid ho1
      have F0 := Lib.hid f0
      obtain ⟨u0, z0⟩ : ∃ u, (w.alloc (.cells #[.int .i64 kd, .int .i64 0, .int .i64 nn, .int .i64 0, .int .i64 0, .int .i64 0, .int .i64 0, .int .i64 0, .int .i64 0, .int .i64 0, .int .i64 0, .slice none 0 0, .int .i64 0, .bool false] 39)).cell? ⟨B, i * 15, none⟩ = some u := ⟨_, (h1.px i hin 0 (by decide)).trans rfl⟩
      obtain ⟨u1, z1⟩ : ∃ u, (w.alloc (.cells #[.int .i64 kd, .int .i64 0, .int .i64 nn, .int .i64 0, .int .i64 0, .int .i64 0, .int .i64 0, .int .i64 0, .int .i64 0, .int .i64 0, .int .i64 0, .slice none 0 0, .int .i64 0, .bool false] 39)).cell? ⟨B, i * 15 + 1, none⟩ = some u := ⟨_, (h1.px i hin 1 (by decide)).trans rfl⟩
      obtain ⟨u2, z2⟩ : ∃ u, (w.alloc (.cells #[.int .i64 kd, .int .i64 0, .int .i64 nn, .int .i64 0, .int .i64 0, .int .i64 0, .int .i64 0, .int .i64 0, .int .i64 0, .int .i64 0, .int .i64 0, .slice none 0 0, .int .i64 0, .bool false] 39)).cell? ⟨B, i * 15 + 2, none⟩ = some u := ⟨_, (h1.px i hin 2 (by decide)).trans rfl⟩
      obtain ⟨u3, z3⟩ : ∃ u, (w.alloc (.cells #[.int .i64 kd, .int .i64 0, .int .i64 nn, .int .i64 0, .int .i64 0, .int .i64 0, .int .i64 0, .int .i64 0, .int .i64 0, .int .i64 0, .int .i64 0, .slice none 0 0, .int .i64 0, .bool false] 39)).cell? ⟨B, i * 15 + 3, none⟩ = some u := ⟨_, (h1.px i hin 3 (by decide)).trans rfl⟩
      obtain ⟨u4, z4⟩ : ∃ u, (w.alloc (.cells #[.int .i64 kd, .int .i64 0, .int .i64 nn, .int .i64 0, .int .i64 0, .int .i64 0, .int .i64 0, .int .i64 0, .int .i64 0, .int .i64 0, .int .i64 0, .slice none 0 0, .int .i64 0, .bool false] 39)).cell? ⟨B, i * 15 + 4, none⟩ = some u := ⟨_, (h1.px i hin 4 (by decide)).trans rfl⟩
      obtain ⟨u5, z5⟩ : ∃ u, (w.alloc (.cells #[.int .i64 kd, .int .i64 0, .int .i64 nn, .int .i64 0, .int .i64 0, .int .i64 0, .int .i64 0, .int .i64 0, .int .i64 0, .int .i64 0, .int .i64 0, .slice none 0 0, .int .i64 0, .bool false] 39)).cell? ⟨B, i * 15 + 5, none⟩ = some u := ⟨_, (h1.px i hin 5 (by decide)).trans rfl⟩
      obtain ⟨u6, z6⟩ : ∃ u, (w.alloc (.cells #[.int .i64 kd, .int .i64 0, .int .i64 nn, .int .i64 0, .int .i64 0, .int .i64 0, .int .i64 0, .int .i64 0, .int .i64 0, .int .i64 0, .int .i64 0, .slice none 0 0, .int .i64 0, .bool false] 39)).cell? ⟨B, i * 15 + 6, none⟩ = some u := ⟨_, (h1.px i hin 6 (by decide)).trans rfl⟩
      obtain ⟨u7, z7⟩ : ∃ u, (w.alloc (.cells #[.int .i64 kd, .int .i64 0, .int .i64 nn, .int .i64 0, .int .i64 0, .int .i64 0, .int .i64 0, .int .i64 0, .int .i64 0, .int .i64 0, .int .i64 0, .slice none 0 0, .int .i64 0, .bool false] 39)).cell? ⟨B, i * 15 + 7, none⟩ = some u := ⟨_, (h1.px i hin 7 (by decide)).trans rfl⟩
      obtain ⟨u8, z8⟩ : ∃ u, (w.alloc (.cells #[.int .i64 kd, .int .i64 0, .int .i64 nn, .int .i64 0, .int .i64 0, .int .i64 0, .int .i64 0, .int .i64 0, .int .i64 0, .int .i64 0, .int .i64 0, .slice none 0 0, .int .i64 0, .bool false] 39)).cell? ⟨B, i * 15 + 8, none⟩ = some u := ⟨_, (h1.px i hin 8 (by decide)).trans rfl⟩
      obtain ⟨u9, z9⟩ : ∃ u, (w.alloc (.cells #[.int .i64 kd, .int .i64 0, .int .i64 nn, .int .i64 0, .int .i64 0, .int .i64 0, .int .i64 0, .int .i64 0, .int .i64 0, .int .i64 0, .int .i64 0, .slice none 0 0, .int .i64 0, .bool false] 39)).cell? ⟨B, i * 15 + 9, none⟩ = some u := ⟨_, (h1.px i hin 9 (by decide)).trans rfl⟩
      obtain ⟨u10, z10⟩ : ∃ u, (w.alloc (.cells #[.int .i64 kd, .int .i64 0, .int .i64 nn, .int .i64 0, .int .i64 0, .int .i64 0, .int .i64 0, .int .i64 0, .int .i64 0, .int .i64 0, .int .i64 0, .slice none 0 0, .int .i64 0, .bool false] 39)).cell? ⟨B, i * 15 + 10, none⟩ = some u := ⟨_, (h1.px i hin 10 (by decide)).trans rfl⟩
      obtain ⟨u11, z11⟩ : ∃ u, (w.alloc (.cells #[.int .i64 kd, .int .i64 0, .int .i64 nn, .int .i64 0, .int .i64 0, .int .i64 0, .int .i64 0, .int .i64 0, .int .i64 0, .int .i64 0, .int .i64 0, .slice none 0 0, .int .i64 0, .bool false] 39)).cell? ⟨B, i * 15 + 11, none⟩ = some u := ⟨_, (h1.px i hin 11 (by decide)).trans rfl⟩
      obtain ⟨u12, z12⟩ : ∃ u, (w.alloc (.cells #[.int .i64 kd, .int .i64 0, .int .i64 nn, .int .i64 0, .int .i64 0, .int .i64 0, .int .i64 0, .int .i64 0, .int .i64 0, .int .i64 0, .int .i64 0, .slice none 0 0, .int .i64 0, .bool false] 39)).cell? ⟨B, i * 15 + 12, none⟩ = some u := ⟨_, (h1.px i hin 12 (by decide)).trans rfl⟩
      obtain ⟨u13, z13⟩ : ∃ u, (w.alloc (.cells #[.int .i64 kd, .int .i64 0, .int .i64 nn, .int .i64 0, .int .i64 0, .int .i64 0, .int .i64 0, .int .i64 0, .int .i64 0, .int .i64 0, .int .i64 0, .slice none 0 0, .int .i64 0, .bool false] 39)).cell? ⟨B, i * 15 + 13, none⟩ = some u := ⟨_, (h1.px i hin 13 (by decide)).trans rfl⟩
      have y0 := F0.out (i * 15)
      have y1 := F0.out (i * 15 + 1)
      have y2 := F0.out (i * 15 + 2)
      have y3 := F0.out (i * 15 + 3)
      have y4 := F0.out (i * 15 + 4)
      have y5 := F0.out (i * 15 + 5)
      have y6 := F0.out (i * 15 + 6)
      have y7 := F0.out (i * 15 + 7)
      have y8 := F0.out (i * 15 + 8)
      have y9 := F0.out (i * 15 + 9)
      have y10 := F0.out (i * 15 + 10)
      have y11 := F0.out (i * 15 + 11)
      have y12 := F0.out (i * 15 + 12)
      have y13 := F0.out (i * 15 + 13)
      have y14 := F0.out (i * 15 + 14)
      clear hat m1 m2 hi h hb1 h1 ho1 hst f0 hth dg g hz
      go_enter Try.func39, Try.ntmps39
      go_wp2_with (go_at_call 57; refine H.out.mono ?_; rintro e w' ⟨rfl, j, rfl⟩)
      go_ret
      exact ⟨rfl, HST.out j, claidp_only (S := fun b => b = B) (b := B) (w := World.drewN _ j) rfl (HO.out.drewN j) (i * 15) ⟨kd, nn⟩ true⟩
    · rw [hth] at ht
      have H := Lib.hid hat
      have H1 := Lib.hid h1
      have HO := Lib.hid ho1
      clear hat m1 m2 hi h hb1 h1 ho1 hst f0 hth dg g hz
      go_enter Try.func39, Try.ntmps39
      go_wp2_with (go_at_call 57; refine H.out.mono ?_; rintro e w' ⟨rfl, j, rfl⟩)
      go_ret
      exact ⟨rfl, H1.out.drewN j, HO.out.drewN j⟩
  · rw [cptr_no g] at hat
    have dg : (decide (low ≤ k) && decide (k - low < n)) = false := by
      simp only [Bool.and_eq_false_iff, decide_eq_false_iff_not]
      omega
    rw [dg]
    have H := Lib.hid hat
    have H1 := Lib.hid h1
    have HO := Lib.hid ho1
    clear hat h hb1 h1 ho1 dg g hz
    go_enter Try.func39, Try.ntmps39
    go_wp2_with (go_at_call 57; refine H.out.mono ?_; rintro e w' ⟨rfl, j, rfl⟩)
    go_ret
    exact ⟨rfl, H1.out.drewN j, HO.out.drewN j⟩
end Go.Proofs.Ytibbnikfecilhaa
