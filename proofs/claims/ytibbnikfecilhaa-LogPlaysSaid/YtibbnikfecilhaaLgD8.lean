/- Chapter 19: the document's log, new. (Printed by lggen.py.) -/
import Derived.Test.YtibbnikfecilhaaLgD7
namespace Go.Proofs.Ytibbnikfecilhaa
open Go.RowKit
set_option linter.unusedVariables false
set_option linter.unusedSimpArgs false

def doc0 (wb : Nat) : DocB := ⟨none, 0, wb, fun _ => 0, fun _ => 0, fun _ => 0, fun _ => false, fun _ _ => OutV.zero⟩
set_option maxRecDepth 20000 in
theorem make_wks (n : Nat) (hn : n ≤ 1000) (W : World) : (Instr.makeSlice 102 (.int .i64 (n : Int)) (.int .i64 (n : Int))).run Try.prog W = .ok (.slice (some ⟨W.heap.size, 0, none⟩) n n) (W.alloc (.cells (rowF (wkOf (doc0 0)) n).toArray 133 (0, 0))) := by
  have hi : ∃ i, Try.prog.info? 133 = some i ∧ i.zero = some (.agg #[.int .i64 0, .bool false]) ∧ i.size = 2 ∧ i.bytes = 16 := ⟨_, rfl, by kernel_rfl, by kernel_rfl, by kernel_rfl⟩
  obtain ⟨i, hi0, hi1, hi2, hi3⟩ := hi
  have := run_make (P := Try.prog) W 102 133 i _ Try.underlying102 hi0 hi1 .i64 .i64 n n (by omega) (by omega) (by rw [hi3]; omega) (by omega)
  rw [hi2] at this
  have hm := made_flat (fun x : Nat => [Value.int .i64 0, .bool false]) 2 (by decide) (fun _ => rfl) 0 #[.int .i64 0, .bool false] rfl rfl n
  have he : rowF (wkOf (doc0 0)) n = (List.replicate n 0).flatMap fun x : Nat => [Value.int .i64 0, .bool false] := by
    unfold rowF
    have h1 : ∀ l : List Nat, l.flatMap (wkOf (doc0 0)) = (List.replicate l.length 0).flatMap fun x : Nat => [Value.int .i64 0, .bool false] := by
      intro l
      induction l with
      | nil => rfl
      | cons a l ih => rw [List.flatMap_cons, ih, List.length_cons, List.replicate_succ, List.flatMap_cons]; rfl
    rw [h1, List.length_range]
  rw [this, he, ← hm]
  simp [Value.cells]
theorem doc0_at {w : World} {lo D wb C : Nat} (c : CfgV) (hc : c.asI.rightB = true) (hD : w.heap[D]? = some (.cells #[.int .i64 c.sh, .int .i64 c.inb, .int .i64 c.sl, .int .i64 c.qu, .int .i64 c.ru, .int .i64 c.ou, .int .i64 c.st, .slice none 0 0, .bool false, .int .i64 0, .slice (some ⟨wb, 0, none⟩) c.sh c.sh] 105 (0, 0)))
    (hW : w.heap[wb]? = some (.cells (rowF (wkOf (doc0 0)) c.sh).toArray 133 (0, 0))) (h1 : lo ≤ D) (h2 : lo ≤ wb) : RefAt w lo D C (doc0 wb) (LogS.init c) := by
  obtain ⟨⟨s1, s2⟩, ⟨n1, n2⟩, ⟨l1, l2⟩, ⟨t1, t2⟩⟩ := rightB_all hc
  simp only [CfgV.asI] at s1 s2 n1 n2 t1 t2
  refine ⟨⟨hD, ⟨rfl, .inl ⟨rfl, rfl⟩⟩, hW, fun p hp => absurd hp (Nat.not_lt_zero _), fun p q hp => absurd hp (Nat.not_lt_zero _), docM_len _ _, h1, h2, fun p hp => absurd hp (Nat.not_lt_zero _)⟩, fun p i hp => absurd hp (Nat.not_lt_zero _), fun i _ => rfl, fun i => Int.le_refl _, fun p z hp => (by cases hp), fun k hk => (by cases hk), ?_, Nat.zero_le _⟩
  refine ⟨by show 1 ≤ c.sh; omega, by show c.sh ≤ 15; omega, by show 1 ≤ c.inb; omega, by show c.inb ≤ 4096; omega, by show ((0 : Nat) : Int) ≤ c.st; omega, t2, Nat.le_refl _, by show 0 ≤ 0 + c.inb; omega, fun p _ => rfl, fun i _ => .inr ⟨by show ((0 : Nat) : Int) ≤ 0; omega, by show (0 : Int) ≤ (0 : Nat); omega⟩, fun i p _ => rfl, fun i p _ _ => ⟨rfl, fun q _ => rfl⟩⟩
theorem cells7 {w' : World} {P sh inb : Nat} {sln qu ru ou st : Int} (h : w'.heap[P]? = some (.cells #[.int .i64 sh, .int .i64 inb, .int .i64 sln, .int .i64 qu, .int .i64 ru, .int .i64 ou, .int .i64 st] 27 (0, 0))) : w'.cell? ⟨P, 0, none⟩ = some (.int .i64 sh) ∧ w'.cell? ⟨P, 1, none⟩ = some (.int .i64 inb) ∧ w'.cell? ⟨P, 2, none⟩ = some (.int .i64 sln) ∧ w'.cell? ⟨P, 3, none⟩ = some (.int .i64 qu) ∧ w'.cell? ⟨P, 4, none⟩ = some (.int .i64 ru) ∧ w'.cell? ⟨P, 5, none⟩ = some (.int .i64 ou) ∧ w'.cell? ⟨P, 6, none⟩ = some (.int .i64 st) := ⟨cell_of_blk (cs := [.int .i64 sh, .int .i64 inb, .int .i64 sln, .int .i64 qu, .int .i64 ru, .int .i64 ou, .int .i64 st]) h 0, cell_of_blk (cs := [.int .i64 sh, .int .i64 inb, .int .i64 sln, .int .i64 qu, .int .i64 ru, .int .i64 ou, .int .i64 st]) h 1, cell_of_blk (cs := [.int .i64 sh, .int .i64 inb, .int .i64 sln, .int .i64 qu, .int .i64 ru, .int .i64 ou, .int .i64 st]) h 2, cell_of_blk (cs := [.int .i64 sh, .int .i64 inb, .int .i64 sln, .int .i64 qu, .int .i64 ru, .int .i64 ou, .int .i64 st]) h 3, cell_of_blk (cs := [.int .i64 sh, .int .i64 inb, .int .i64 sln, .int .i64 qu, .int .i64 ru, .int .i64 ou, .int .i64 st]) h 4, cell_of_blk (cs := [.int .i64 sh, .int .i64 inb, .int .i64 sln, .int .i64 qu, .int .i64 ru, .int .i64 ou, .int .i64 st]) h 5, cell_of_blk (cs := [.int .i64 sh, .int .i64 inb, .int .i64 sln, .int .i64 qu, .int .i64 ru, .int .i64 ou, .int .i64 st]) h 6⟩
set_option maxHeartbeats 4000000 in
set_option maxRecDepth 20000 in
theorem refNew {w : World} (c : CfgV) (hc : c.asI.rightB = true) :
    Calls Try.prog 24 #[.agg #[.int .i64 c.sh, .int .i64 c.inb, .int .i64 c.sl, .int .i64 c.qu, .int .i64 c.ru, .int .i64 c.ou, .int .i64 c.st]] w fun e w' => ∃ D d, e = .returned (.pointer (some ⟨D, 0, none⟩)) ∧ (∀ C, RefAt w' w.heap.size D C d (LogS.init c)) ∧ Below w.heap.size w w' := by
  have hsh : c.sh ≤ 15 := by
    have := (rightB_all hc).1.2
    simp only [CfgV.asI] at this
    omega
  have HC := Lib.hid hc
  clear hc
  obtain ⟨sh, inb, sln, qu, ru, ou, st⟩ := c
  change sh ≤ 15 at hsh
  have hb := bl_alloc (Below.refl _ w) (.cells #[.int .i64 sh, .int .i64 inb, .int .i64 sln, .int .i64 qu, .int .i64 ru, .int .i64 ou, .int .i64 st] 27)
  have hz := alloc_new w (.cells #[.int .i64 sh, .int .i64 inb, .int .i64 sln, .int .i64 qu, .int .i64 ru, .int .i64 ou, .int .i64 st] 27)
  have hmk := make_wks sh (by omega)
  have HB := Lib.hid hb
  have HZ := Lib.hid hz
  have x0 : (w.alloc (.cells #[.int .i64 sh, .int .i64 inb, .int .i64 sln, .int .i64 qu, .int .i64 ru, .int .i64 ou, .int .i64 st] 27)).drew.cell? ⟨w.heap.size, 0, none⟩ = some (.int .i64 sh) := cell_of_blk (cs := [.int .i64 sh, .int .i64 inb, .int .i64 sln, .int .i64 qu, .int .i64 ru, .int .i64 ou, .int .i64 st]) hz 0
  have x1 : (w.alloc (.cells #[.int .i64 sh, .int .i64 inb, .int .i64 sln, .int .i64 qu, .int .i64 ru, .int .i64 ou, .int .i64 st] 27)).drew.cell? ⟨w.heap.size, 1, none⟩ = some (.int .i64 inb) := cell_of_blk (cs := [.int .i64 sh, .int .i64 inb, .int .i64 sln, .int .i64 qu, .int .i64 ru, .int .i64 ou, .int .i64 st]) hz 1
  have x2 : (w.alloc (.cells #[.int .i64 sh, .int .i64 inb, .int .i64 sln, .int .i64 qu, .int .i64 ru, .int .i64 ou, .int .i64 st] 27)).drew.cell? ⟨w.heap.size, 2, none⟩ = some (.int .i64 sln) := cell_of_blk (cs := [.int .i64 sh, .int .i64 inb, .int .i64 sln, .int .i64 qu, .int .i64 ru, .int .i64 ou, .int .i64 st]) hz 2
  have x3 : (w.alloc (.cells #[.int .i64 sh, .int .i64 inb, .int .i64 sln, .int .i64 qu, .int .i64 ru, .int .i64 ou, .int .i64 st] 27)).drew.cell? ⟨w.heap.size, 3, none⟩ = some (.int .i64 qu) := cell_of_blk (cs := [.int .i64 sh, .int .i64 inb, .int .i64 sln, .int .i64 qu, .int .i64 ru, .int .i64 ou, .int .i64 st]) hz 3
  have x4 : (w.alloc (.cells #[.int .i64 sh, .int .i64 inb, .int .i64 sln, .int .i64 qu, .int .i64 ru, .int .i64 ou, .int .i64 st] 27)).drew.cell? ⟨w.heap.size, 4, none⟩ = some (.int .i64 ru) := cell_of_blk (cs := [.int .i64 sh, .int .i64 inb, .int .i64 sln, .int .i64 qu, .int .i64 ru, .int .i64 ou, .int .i64 st]) hz 4
  have x5 : (w.alloc (.cells #[.int .i64 sh, .int .i64 inb, .int .i64 sln, .int .i64 qu, .int .i64 ru, .int .i64 ou, .int .i64 st] 27)).drew.cell? ⟨w.heap.size, 5, none⟩ = some (.int .i64 ou) := cell_of_blk (cs := [.int .i64 sh, .int .i64 inb, .int .i64 sln, .int .i64 qu, .int .i64 ru, .int .i64 ou, .int .i64 st]) hz 5
  have x6 : (w.alloc (.cells #[.int .i64 sh, .int .i64 inb, .int .i64 sln, .int .i64 qu, .int .i64 ru, .int .i64 ou, .int .i64 st] 27)).drew.cell? ⟨w.heap.size, 6, none⟩ = some (.int .i64 st) := cell_of_blk (cs := [.int .i64 sh, .int .i64 inb, .int .i64 sln, .int .i64 qu, .int .i64 ru, .int .i64 ou, .int .i64 st]) hz 6
  clear hb hz
  go_enter Try.func24, Try.ntmps24
  go_wp2_with fail
  go_region_held3 (fun w' => w'.cell? ⟨w.heap.size, 0, none⟩ = some (.int .i64 sh) ∧ w'.cell? ⟨w.heap.size, 1, none⟩ = some (.int .i64 inb) ∧ w'.cell? ⟨w.heap.size, 2, none⟩ = some (.int .i64 sln) ∧ w'.cell? ⟨w.heap.size, 3, none⟩ = some (.int .i64 qu) ∧ w'.cell? ⟨w.heap.size, 4, none⟩ = some (.int .i64 ru) ∧ w'.cell? ⟨w.heap.size, 5, none⟩ = some (.int .i64 ou) ∧ w'.cell? ⟨w.heap.size, 6, none⟩ = some (.int .i64 st)) (exact cells7 (by repeat' (first | exact HZ.out | with_reducible refine drew_blk ?_ | with_reducible refine alloc_old ?_ _))) (fail)
  all_goals
    go_wp2_with fail
    go_ret
    exact ⟨_, doc0 (w.heap.size + 1), rfl, fun C => doc0_at _ HC.out (drew_blk (alloc_at (by simp) _)) (drew_blk (alloc_old (alloc_at (by simp) _) _)) (by omega) (by omega), bl_drew (bl_alloc (bl_alloc HB.out _) _)⟩
end Go.Proofs.Ytibbnikfecilhaa
