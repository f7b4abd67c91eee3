/- Chapter 5: one, and the chapter's examples. -/
import Derived.Test.YtjapgmaldfckkaaCodes
import Derived.Test.YtjapgmaldfckkaaSets
namespace Go.Proofs.Ytjapgmaldfckkaa
open Go.RowKit
set_option linter.unusedVariables false
set_option linter.unusedSimpArgs false

theorem one_any (x : Int) (w : World) :
    Calls Try.prog 18 #[.int .i64 x] w fun e w' => ∃ A, e = .returned (.slice A 1 1) ∧ SetsAt w' A 1 [[⟨0, 0, x, 0, 0, 0⟩]] ∧ Below w.heap.size w w' := by
  go_enter Try.func18, Try.ntmps18
  go_wp2
  go_ret
  refine ⟨_, rfl, ⟨rfl, fun _ => ⟨w.heap.size + 1, 0, rfl, by simp, fun i hi => ?_⟩⟩, bl_alloc (bl_alloc (Below.refl _ w) _) _⟩
  obtain rfl : i = 0 := by omega
  refine ⟨some ⟨w.heap.size, 0, none⟩, 1, cells_new_at _ _ (by simp) [.slice (some ⟨w.heap.size, 0, none⟩) 1 1] _ 0 _ rfl, rfl, fun _ => ⟨w.heap.size, 0, rfl, by simp; omega, fun i hi j hj => ?_⟩⟩
  obtain rfl : i = 0 := by simp at hi; omega
  have h0 := alloc_old (alloc_new w (.cells #[.int .i64 0, .int .i64 0, .int .i64 x, .int .i64 0, .int .i64 0, .int .i64 0] 30)) (.cells #[.slice (some ⟨w.heap.size, 0, none⟩) 1 1] 27)
  have := cell_of_blk h0 j
  rw [Nat.zero_mul, Nat.zero_add, this]
  rfl
/-- A literal row of codes. -/
theorem CodesAt.lit (w : World) (cs : List CodeV) {n N : Nat} (hn : w.heap.size = N) (hl : cs.length = n) {l : List Value} (he : l = codeCells cs) : CodesAt (w.alloc (.cells l.toArray 37)) (some ⟨N, 0, none⟩) n cs := by
  subst hn hl he
  refine ⟨rfl, fun _ => ⟨w.heap.size, 0, rfl, by simp, fun i hi j hj => ?_⟩⟩
  have h1 := codeCells_at cs i hi j hj
  have h2 : j < (cs.getD i CodeV.zero).cells.length := hj
  rw [List.getElem?_eq_getElem h2] at h1
  rw [List.getElem?_eq_getElem h2, Nat.zero_add]
  have h := cells_new_at w _ rfl (codeCells cs) 37 (i * 5 + j) _ h1
  simpa [Addr.add_lit] using h
theorem held5 {w' : World} {b : Nat} (h : w'.heap[b]? = some (.cells #[.int .i64 7, .int .i64 0, .string { data := #[] }, .int .i64 0, .int .i64 0] 37)) : w'.cell? ⟨b, 0, none⟩ = some (.int .i64 7) ∧ w'.cell? ⟨b, 1, none⟩ = some (.int .i64 0) ∧ w'.cell? ⟨b, 2, none⟩ = some (.string { data := #[] }) ∧ w'.cell? ⟨b, 3, none⟩ = some (.int .i64 0) ∧ w'.cell? ⟨b, 4, none⟩ = some (.int .i64 0) :=
  ⟨cell_of_blk h 0, cell_of_blk h 1, cell_of_blk h 2, cell_of_blk h 3, cell_of_blk h 4⟩
def csA : List CodeV := [⟨7, 0, ⟨#[]⟩, 0, 0⟩, ⟨6, 4, ⟨#[]⟩, 0, 0⟩, ⟨4, 0, ⟨#[]⟩, 0, 0⟩]
def csB : List CodeV := [⟨6, 1, ⟨#[]⟩, 0, 0⟩, ⟨7, 0, ⟨#[]⟩, 0, 0⟩, ⟨6, 6, ⟨#[]⟩, 0, 0⟩, ⟨2, 0, ⟨#[]⟩, 0, 0⟩, ⟨5, 0, ⟨#[]⟩, 0, 0⟩]
theorem evA {w : World} {A B : Option Addr} {c c' : Nat} (hc : CodesAt w A 3 csA) (hs : SetsAt w B 1 [[⟨0, 0, 6, 0, 0, 0⟩]]) :
    Calls Try.prog 10 #[.slice A 3 c, .slice B 1 c'] w fun e w' => e = .returned (.tuple #[.int .i64 1, .bool true]) ∧ Below w.heap.size w w' := by
  have h : evalRes [[⟨0, 0, 6, 0, 0, 0⟩]] csA = (1, true) := by kernel_rfl
  have := eval_any (c := c) (c' := c') hc hs (by decide) (by decide) (by simp)
  rw [h] at this
  exact this
theorem evB {w : World} {A B : Option Addr} {c c' : Nat} (hc : CodesAt w A 5 csB) (hs : SetsAt w B 1 [[⟨0, 0, 6, 0, 0, 0⟩]]) :
    Calls Try.prog 10 #[.slice A 5 c, .slice B 1 c'] w fun e w' => e = .returned (.tuple #[.int .i64 0, .bool false]) ∧ Below w.heap.size w w' := by
  have h : evalRes [[⟨0, 0, 6, 0, 0, 0⟩]] csB = (0, false) := by kernel_rfl
  have := eval_any (c := c) (c' := c') hc hs (by decide) (by decide) (by simp)
  rw [h] at this
  exact this
set_option maxHeartbeats 2000000 in
theorem awake_any (w : World) : Calls Try.prog 8 #[] w fun e w' => e = .returned (.bool true) ∧ Below w.heap.size w w' := by
  go_enter Try.func8, Try.ntmps8
  go_wp2_with fail
  have hb0 : Below w.heap.size w (w.alloc (.cells #[.int .i64 7, .int .i64 0, .string { data := #[] }, .int .i64 0, .int .i64 0] 37)) := bl_alloc (Below.refl _ w) _
  have hx0 := alloc_new w (.cells #[.int .i64 7, .int .i64 0, .string { data := #[] }, .int .i64 0, .int .i64 0] 37)
  have hlt : w.heap.size < (w.alloc (.cells #[.int .i64 7, .int .i64 0, .string { data := #[] }, .int .i64 0, .int .i64 0] 37)).heap.size := by simp
  generalize w.alloc (.cells #[.int .i64 7, .int .i64 0, .string { data := #[] }, .int .i64 0, .int .i64 0] 37) = w1 at *
  have x0 : w1.cell? ⟨w.heap.size, 0, none⟩ = some (.int .i64 7) := cell_of_blk hx0 0
  have x1 : w1.cell? ⟨w.heap.size, 1, none⟩ = some (.int .i64 0) := cell_of_blk hx0 1
  have x2 : w1.cell? ⟨w.heap.size, 2, none⟩ = some (.string { data := #[] }) := cell_of_blk hx0 2
  have x3 : w1.cell? ⟨w.heap.size, 3, none⟩ = some (.int .i64 0) := cell_of_blk hx0 3
  have x4 : w1.cell? ⟨w.heap.size, 4, none⟩ = some (.int .i64 0) := cell_of_blk hx0 4
  go_region_held3 (fun w' => w'.cell? ⟨w.heap.size, 0, none⟩ = some (.int .i64 7) ∧ w'.cell? ⟨w.heap.size, 1, none⟩ = some (.int .i64 0) ∧ w'.cell? ⟨w.heap.size, 2, none⟩ = some (.string { data := #[] }) ∧ w'.cell? ⟨w.heap.size, 3, none⟩ = some (.int .i64 0) ∧ w'.cell? ⟨w.heap.size, 4, none⟩ = some (.int .i64 0)) (first | exact held5 hx6 | exact held5 (alloc_old hx5 _) | exact held5 hx5 | exact held5 (alloc_old hx0 _) | exact held5 hx0) (first
    | (go_at_call 18; refine (one_any 6 _).mono ?_; rintro e w' ⟨A, rfl, hs, hb⟩; have hx5 := (hb.block w.heap.size (by first | exact hlt | (simp; omega))).trans (by first | exact alloc_old hx0 _ | exact hx0); have hbo := bl_then (w := w) (by first | exact bl_drew (bl_alloc hb0 _) | exact bl_drew hb0 | exact hb0 | exact bl_alloc hb0 _) hb)
    | (go_at_call 10; refine (evA (by first | exact (CodesAt.lit _ csA rfl rfl rfl).below (bl_then (bl_drew (Below.refl _ _)) hb) | exact CodesAt.lit _ csA rfl rfl rfl) (by first | exact hs | exact hs.below (bl_alloc (Below.refl _ _) _))).mono ?_; rintro e w2 ⟨rfl, hb2⟩; have hb3 := bl_then (w := w) (by first | exact hbo | exact bl_alloc hbo _) hb2; have hx6 := (hb2.block w.heap.size (by first | exact block_lt hx5 | exact block_lt (alloc_old hx5 _))).trans (by first | exact alloc_old hx5 _ | exact hx5)))
  all_goals
    clear hb hx5 hs hbo
    have hx7 := hx6
    have hb7 := hb3
    have hlt7 := block_lt hx7
    clear hb3 hx6 hb2 hx0 hb0 hlt x0 x1 x2 x3 x4
    go_wp2_with fail
    go_region_held3 (fun w' => w'.cell? ⟨w.heap.size, 0, none⟩ = some (.int .i64 7) ∧ w'.cell? ⟨w.heap.size, 1, none⟩ = some (.int .i64 0) ∧ w'.cell? ⟨w.heap.size, 2, none⟩ = some (.string { data := #[] }) ∧ w'.cell? ⟨w.heap.size, 3, none⟩ = some (.int .i64 0) ∧ w'.cell? ⟨w.heap.size, 4, none⟩ = some (.int .i64 0)) (first | exact held5 hx8 | exact held5 (alloc_old hx9 _) | exact held5 hx9 | exact held5 (alloc_old hx7 _) | exact held5 hx7) (first
      | (go_at_call 18; refine (one_any 6 _).mono ?_; rintro e w3 ⟨A3, rfl, hs3, hb6⟩; have hx9 := (hb6.block w.heap.size (by first | exact hlt7 | (simp; omega))).trans (by first | exact alloc_old hx7 _ | exact hx7); have hbp := bl_then (w := w) (by first | exact bl_drew (bl_alloc hb7 _) | exact bl_drew hb7 | exact hb7 | exact bl_alloc hb7 _) hb6)
      | (go_at_call 10; refine (evB (by first | exact (CodesAt.lit _ csB rfl rfl rfl).below (bl_then (bl_drew (Below.refl _ _)) hb6) | exact CodesAt.lit _ csB rfl rfl rfl) (by first | exact hs3 | exact hs3.below (bl_alloc (Below.refl _ _) _))).mono ?_; rintro e w4 ⟨rfl, hb9⟩; have hb8 := bl_then (w := w) (by first | exact hbp | exact bl_alloc hbp _) hb9; have hx8 := (hb9.block w.heap.size (by first | exact block_lt hx9 | exact block_lt (alloc_old hx9 _))).trans (by first | exact alloc_old hx9 _ | exact hx9)))

    all_goals
      go_wp2
      go_ret
      exact ⟨rfl, hb8⟩
end Go.Proofs.Ytjapgmaldfckkaa
