/- Chapter 19: an act is done with both; what it makes of a log. -/
import Derived.Test.YtibbnikfecilhaaLgDG
namespace Go.Proofs.Ytibbnikfecilhaa
open Go.RowKit
set_option linter.unusedVariables false
set_option linter.unusedSimpArgs false

/-- An act is done with both: they tell the same. -/
theorem does_any {w0 wB w : World} {L D : Nat} {b : LogB} {s : LogS} (h : Both w0 wB w L D b s) (k at_ n : Int) (hsm : s.tail + 1 ≤ 1000000) :
    Calls Try.prog 27 #[.pointer (some ⟨L, 0, none⟩), .pointer (some ⟨D, 0, none⟩), .agg #[.int .i64 k, .int .i64 at_, .int .i64 n]] w fun e w' => e = .returned (.bool true) ∧ ∃ x, Both w0 wB w' L D b (stepTo s k at_ n x) := by
  have hc : k % 10 = 0 ∨ k % 10 = 1 ∨ k % 10 = 2 ∨ k % 10 = 3 ∨ k % 10 = 4 ∨ k % 10 = 5 ∨ k % 10 = 6 ∨ k % 10 = 7 ∨ k % 10 = 8 ∨ k % 10 = 9 := by omega
  rcases hc with h0 | h0 | h0 | h0 | h0 | h0 | h0 | h0 | h0 | h0
  · exact (does_take h k at_ n (.inl h0) hsm _ rfl).mono fun e w' hh => ⟨hh.1, _, hh.2⟩
  · exact (does_take h k at_ n (.inr h0) hsm _ rfl).mono fun e w' hh => ⟨hh.1, _, hh.2⟩
  · exact (does_fill h k at_ n (.inl h0) hsm _ rfl).mono fun e w' hh => ⟨hh.1, _, hh.2⟩
  · exact (does_fill h k at_ n (.inr h0) hsm _ rfl).mono fun e w' hh => ⟨hh.1, _, hh.2⟩
  · exact does_post h k at_ n (.inl h0) hsm
  · exact does_post h k at_ n (.inr h0) hsm
  · exact (does_leave h k at_ n h0 hsm _ rfl).mono fun e w' hh => ⟨hh.1, _, hh.2⟩
  · exact (does_reply h k at_ n (.inl h0) hsm _ rfl).mono fun e w' hh => ⟨hh.1, _, hh.2⟩
  · exact (does_reply h k at_ n (.inr h0) hsm _ rfl).mono fun e w' hh => ⟨hh.1, _, hh.2⟩
  · exact (does_answer h k at_ n h0 hsm _ rfl).mono fun e w' hh => ⟨hh.1, _, hh.2⟩
/-- What an act makes of a log. -/
structure Steps (s s' : LogS) (k at_ n : Int) : Prop where
  cfg : s'.cfg = s.cfg
  tail : s'.tail = s.tail ∨ (s'.tail = s.tail + 1 ∧ k % 10 ≤ 1 ∧ tailOf at_ n s.tail = s.tail)
  low : s'.low = s.low ∨ (s'.low = s.low + 1 ∧ (k % 10 = 7 ∨ k % 10 = 8) ∧ s.collect.isSome = true)
  closed : s.closed = true → s'.closed = true
theorem steps_any (s : LogS) (k at_ n : Int) (x : OutV) : Steps s (stepTo s k at_ n x) k at_ n := by
  have same : Steps s s k at_ n := ⟨rfl, .inl rfl, .inl rfl, id⟩
  unfold stepTo
  split
  · rename_i hk
    split
    · rename_i ht
      refine ⟨rfl, .inr ⟨rfl, hk, ?_⟩, .inl rfl, fun hc => ?_⟩
      · unfold LogS.takes at ht
        simp only [Bool.and_eq_true, decide_eq_true_eq] at ht
        exact ht.1.1.1
      · show (s.closed || _) = true
        rw [hc]
        rfl
    · exact same
  · split
    · split
      · exact ⟨rfl, .inl rfl, .inl rfl, id⟩
      · exact same
    · split
      · split
        · exact ⟨rfl, .inl rfl, .inl rfl, id⟩
        · exact same
      · split
        · split
          · exact ⟨rfl, .inl rfl, .inl rfl, id⟩
          · exact same
        · split
          · split
            · rename_i hc
              exact ⟨rfl, .inl rfl, .inr ⟨rfl, by omega, hc⟩, id⟩
            · exact same
          · exact ⟨rfl, .inl rfl, .inl rfl, id⟩
theorem collect_seen {s : LogS} (hI : LogI s) (h : s.collect.isSome = true) : (∀ i, i < s.cfg.sh → s.cur i = -1 ∨ (s.low : Int) < s.cur i) ∧ (s.look s.low).isSome = true := by
  cases hc : s.collect with
  | none => rw [hc] at h; cases h
  | some l =>
    obtain ⟨c, hl, hw, _⟩ := collect_some hc
    exact ⟨waits_no hw, by rw [hl]; rfl⟩
theorem Both.inv {w0 wB w : World} {L D : Nat} {b : LogB} {s : LogS} (h : Both w0 wB w L D b s) : LogI s := by
  obtain ⟨_, _, hl⟩ := h.log
  exact hl.inv
theorem look_in {s : LogS} (h : LogI s) {p : Nat} (hl : (s.look p).isSome = true) : s.low ≤ p ∧ p < s.tail := look_some h hl
theorem cursor_le {s : LogS} (h : LogI s) (i : Nat) : s.cursor i ≤ s.tail := by
  unfold LogS.cursor
  split
  · rename_i g
    rw [Int.toNat_natCast]
    rcases h.cur1 i (by omega) with e | ⟨_, e⟩
    · omega
    · exact e
  · omega
theorem cfg_of {w' : World} {Y : Nat} {c : CfgV} (h : w'.heap[Y]? = some (.cells c.cells.toArray 27 (0, 0))) : w'.cell? ⟨Y, 0, none⟩ = some (.int .i64 c.sh) ∧ w'.cell? ⟨Y, 1, none⟩ = some (.int .i64 c.inb) ∧ w'.cell? ⟨Y, 2, none⟩ = some (.int .i64 c.sl) ∧ w'.cell? ⟨Y, 3, none⟩ = some (.int .i64 c.qu) ∧ w'.cell? ⟨Y, 4, none⟩ = some (.int .i64 c.ru) ∧ w'.cell? ⟨Y, 5, none⟩ = some (.int .i64 c.ou) ∧ w'.cell? ⟨Y, 6, none⟩ = some (.int .i64 c.st) := ⟨cell_of_blk h 0, cell_of_blk h 1, cell_of_blk h 2, cell_of_blk h 3, cell_of_blk h 4, cell_of_blk h 5, cell_of_blk h 6⟩
end Go.Proofs.Ytibbnikfecilhaa
