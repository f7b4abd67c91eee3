/- The rules of a table: table.may. -/
import Derived.Test.YtecdnpdmjbcioaaRuE
import Derived.Test.YtecdnpdmjbcioaaSt4
namespace Go.Proofs.Ytecdnpdmjbcioaa
open Go.RowKit
set_option linter.unusedVariables false
set_option linter.unusedSimpArgs false

def CodeV.named (c : CodeV) : Bool := decide (c.op = 7) || decide (c.op = 8)
def CodeV.bad (most more : Int) (c : CodeV) : Bool := c.named && (decide (c.at_ < 0) || decide (most < c.at_)) && !decide (c.at_ = more)
def RuleV.mayB (most more : Int) (r : RuleV) : Bool := !(decide (r.op < 1) || decide (6 < r.op) || (r.l ++ r.r).any (CodeV.bad most more))
def mayB (most more : Int) (rs : List RuleV) : Bool := rs.all (RuleV.mayB most more)

set_option maxHeartbeats 1000000 in
theorem named_any (c : CodeV) (w : World) : Calls Try.prog 70 #[.agg c.cells.toArray] w fun e w' => e = .returned (.bool c.named) ∧ Below w.heap.size w w' := by
  obtain ⟨op, cn, var, field, at_⟩ := c
  simp only [CodeV.cells, CodeV.named]
  have hb0 : Below w.heap.size w (w.alloc (.cells #[.int .i64 op, .int .i64 cn, .string var, .int .i64 field, .int .i64 at_] 56)) := bl_alloc (Below.refl _ w) _
  by_cases h7 : op = 7
  · subst h7
    go_enter Try.func70, Try.ntmps70
    go_wp2_with fail
    go_ret
    exact ⟨rfl, hb0⟩
  have k7 : (op == 7) = false := by simpa using h7
  by_cases h8 : op = 8
  · subst h8
    go_enter Try.func70, Try.ntmps70
    go_wp2_with fail
    go_ret
    exact ⟨rfl, hb0⟩
  have k8 : (op == 8) = false := by simpa using h8
  rw [decide_eq_false h7, decide_eq_false h8]
  go_enter Try.func70, Try.ntmps70
  go_wp2_with fail
  go_ret
  exact ⟨rfl, hb0⟩

theorem bad_cases (most more : Int) (c : CodeV) : (c.named = false ∧ c.bad most more = false) ∨ (c.named = true ∧ (c.at_ < 0 ∨ (0 ≤ c.at_ ∧ most < c.at_)) ∧ c.bad most more = !decide (c.at_ = more)) ∨ (c.named = true ∧ 0 ≤ c.at_ ∧ c.at_ ≤ most ∧ c.bad most more = false) := by
  unfold CodeV.bad
  cases c.named
  · exact .inl ⟨rfl, rfl⟩
  · by_cases h1 : c.at_ < 0
    · exact .inr (.inl ⟨rfl, .inl h1, by rw [decide_eq_true h1]; rfl⟩)
    · by_cases h2 : most < c.at_
      · exact .inr (.inl ⟨rfl, .inr ⟨by omega, h2⟩, by rw [decide_eq_true h2, decide_eq_false h1]; rfl⟩)
      · exact .inr (.inr ⟨rfl, by omega, by omega, by rw [decide_eq_false h1, decide_eq_false h2]; rfl⟩)
set_option maxHeartbeats 2000000 in
theorem mayc_any {w : World} {P Q : Nat} {most more : Int} (hP : w.heap[P]? = some (.cells #[.int .i64 most] 3 (0, 0))) (hQ : w.heap[Q]? = some (.cells #[.int .i64 more] 3 (0, 0))) (c : CodeV) :
    Calls Try.prog 69 #[.agg c.cells.toArray, .pointer (some ⟨P, 0, none⟩), .pointer (some ⟨Q, 0, none⟩)] w fun e w' => e = .returned (.bool (c.bad most more)) ∧ Below w.heap.size w w' := by
  have hb0 : Below w.heap.size w (w.alloc (.cells c.cells.toArray 56)) := bl_alloc (Below.refl _ w) _
  have hx0 := alloc_new w (.cells c.cells.toArray 56)
  have HP := Lib.hid (alloc_old hP (.cells c.cells.toArray 56))
  have HQ := Lib.hid (alloc_old hQ (.cells c.cells.toArray 56))
  have HN := Lib.hid (named_any c)
  have hc := bad_cases most more c
  obtain ⟨nm, hnm⟩ : ∃ nm, c.named = nm := ⟨_, rfl⟩
  obtain ⟨bd, hbd⟩ : ∃ bd, c.bad most more = bd := ⟨_, rfl⟩
  rw [hnm, hbd] at hc
  rw [hbd]
  rw [hnm] at HN
  clear hP hQ hnm hbd
  obtain ⟨op, cn, var, field, at_⟩ := c
  simp only [CodeV.cells] at *
  have HX := Lib.hid hx0
  have HB := Lib.hid hb0
  clear hx0 hb0
  go_enter Try.func69, Try.ntmps69
  go_wp2_with fail
  generalize w.alloc (.cells #[.int .i64 op, .int .i64 cn, .string var, .int .i64 field, .int .i64 at_] 56) = w1 at *
  refine (HN.out _).mono ?_
  rintro e w2 ⟨rfl, hb2⟩
  have hx2 := (hb2.block _ (block_lt HX.out)).trans HX.out
  have x4 : w2.cell? ⟨w.heap.size, 4, none⟩ = some (.int .i64 at_) := cell_of_blk hx2 4
  have xP : w2.cell? ⟨P, 0, none⟩ = some (.int .i64 most) := box_of ((hb2.block _ (block_lt HP.out)).trans HP.out)
  have xQ : w2.cell? ⟨Q, 0, none⟩ = some (.int .i64 more) := box_of ((hb2.block _ (block_lt HQ.out)).trans HQ.out)
  have HB2 := Lib.hid (bl_then HB.out hb2)
  clear hb2 hx2
  rcases hc with ⟨rfl, rfl⟩ | ⟨rfl, h1, rfl⟩ | ⟨rfl, h1, h2, rfl⟩
  · go_wp2_with fail
    go_ret
    exact ⟨rfl, HB2.out⟩
  · have hf : (at_ != more) = !decide (at_ = more) := rfl
    obtain ⟨q, hq⟩ : ∃ q, decide (at_ = more) = q := ⟨_, rfl⟩
    have HQ2 := Lib.hid hq
    rcases h1 with h1 | ⟨h1, h2⟩
    · have d1 : decide (at_ < 0) = true := decide_eq_true h1
      have d3 : (at_ != more) = !q := by rw [hf, hq]
      clear hf h1 hq
      go_wp2_with fail
      go_ret
      refine ⟨?_, HB2.out⟩
      rw [HQ2.out]
      rfl
    · have d1 : decide (at_ < 0) = false := decide_eq_false (by omega)
      have d2 : decide (most < at_) = true := decide_eq_true h2
      have d3 : (at_ != more) = !q := by rw [hf, hq]
      clear hf h1 h2 hq
      go_wp2_with fail
      go_ret
      refine ⟨?_, HB2.out⟩
      rw [HQ2.out]
      rfl
  · have d1 : decide (at_ < 0) = false := decide_eq_false (by omega)
    have d2 : decide (most < at_) = false := decide_eq_false (by omega)
    clear h1 h2
    go_wp2_with fail
    go_ret
    exact ⟨rfl, HB2.out⟩
end Go.Proofs.Ytecdnpdmjbcioaa
