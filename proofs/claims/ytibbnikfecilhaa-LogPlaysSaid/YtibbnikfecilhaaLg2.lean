/- Chapter 19: what is done with a log: Cursor, Take, Leave. -/
import Derived.Test.YtibbnikfecilhaaLg
namespace Go.Proofs.Ytibbnikfecilhaa
open Go.RowKit
set_option linter.unusedVariables false
set_option linter.unusedSimpArgs false

def LogS.cursor (s : LogS) (i : Int) : Int := if 0 ≤ i ∧ i < s.cfg.sh then s.cur i.toNat else -1
theorem curCells_at (s : LogS) {i : Nat} (hi : i < s.cfg.sh) : (curCells s)[i]? = some (.int .i64 (s.cur i)) := by simp [curCells, hi]
theorem curCells_set (s : LogS) (i : Nat) (v : Int) : (curCells s).set i (.int .i64 v) = curCells { s with cur := upd s.cur i v } := by
  refine List.ext_getElem? fun j => ?_
  rw [List.getElem?_set]
  by_cases hj : j < s.cfg.sh
  · by_cases e : i = j
    · subst e
      rw [if_pos rfl, if_pos (by simp [curCells]; exact hj), curCells_at { s with cur := upd s.cur i v } hj]
      simp [upd]
    · rw [if_neg e, curCells_at s hj, curCells_at { s with cur := upd s.cur i v } hj]
      simp [upd, Ne.symm e]
  · have h1 : (curCells s)[j]? = none := List.getElem?_eq_none (by simp [curCells]; omega)
    have h2 : (curCells { s with cur := upd s.cur i v })[j]? = none := List.getElem?_eq_none (by simp [curCells]; omega)
    rw [h1, h2]
    split
    · rw [if_neg (by simp [curCells]; omega)]
    · rfl
theorem logCursor {w : World} {lo L : Nat} {b : LogB} {s : LogS} (h : LogAt w lo L b s) (i : Int) (r : Int) (hr : s.cursor i = r) :
    Calls Try.prog 19 #[.pointer (some ⟨L, 0, none⟩), .int .i64 i] w fun e w' => e = .returned (.int .i64 r) ∧ w' = w := by
  have c12 : w.cell? ⟨L, 12, none⟩ = some (.slice (some ⟨b.C, 0, none⟩) s.cfg.sh s.cfg.sh) := lgCell h 12
  have hcur := h.curs
  clear h
  subst hr
  unfold LogS.cursor
  by_cases h1 : 0 ≤ i
  · have d1 : decide (i < 0) = false := decide_eq_false (by omega)
    by_cases h2 : i < s.cfg.sh
    · rw [if_pos ⟨h1, h2⟩]
      obtain ⟨k, rfl⟩ : ∃ k : Nat, i = k := ⟨i.toNat, by omega⟩
      have d2 : decide ((s.cfg.sh : Int) ≤ k) = false := decide_eq_false (by omega)
      have cc : w.cell? ⟨b.C, k, none⟩ = some (.int .i64 (s.cur k)) := (cell_of_blk hcur k).trans (curCells_at s (by omega))
      rw [Int.toNat_natCast]
      clear hcur
      go_enter Try.func19, Try.ntmps19
      go_wp2_with fail
      go_ret
      exact ⟨rfl, rfl⟩
    · rw [if_neg (fun g => h2 g.2)]
      have d2 : decide ((s.cfg.sh : Int) ≤ i) = true := decide_eq_true (by omega)
      clear hcur
      go_enter Try.func19, Try.ntmps19
      go_wp2_with fail
      go_ret
      exact ⟨rfl, rfl⟩
  · rw [if_neg (fun g => h1 g.1)]
    have d1 : decide (i < 0) = true := decide_eq_true (by omega)
    clear hcur
    go_enter Try.func19, Try.ntmps19
    go_wp2_with fail
    go_ret
    exact ⟨rfl, rfl⟩
/-- The log's own cells are laid anew. -/
theorem LogAt.tailed {w w' : World} {lo L : Nat} {b : LogB} {s : LogS} (h : LogAt w lo L b s) (ho : Only (fun k => k = L) w w') (t : Nat) (c : Bool)
    (hL : w'.heap[L]? = some (.cells (lgCells b { s with tail := t, closed := c }).toArray 94 (0, 0))) (hi : LogI { s with tail := t, closed := c }) : LogAt w' lo L b { s with tail := t, closed := c } := by
  have ne : ∀ {k : Nat} {cs : Array Value} {t : TypeId} {fr : Nat × Nat}, w.heap[k]? = some (.cells cs t fr) → t ≠ 94 → ¬ k = L := fun h1 h2 => blk_ne h1 h.hL h2
  refine ⟨hL, h.ring.kept ho (ne h.ring.hR (by decide)) (ne h.ring.hB (by decide)), ho.block h.curs (ne h.curs (by decide)), ownsRow_keptT h.outs (fun k cs fr hc => ho.block hc (ne hc (by decide))), fun i hi => (h.orng i hi).kept ho (ne (h.orng i hi).hR (by decide)) (ne (h.orng i hi).hB (by decide)), h.apart, fun i p x hi hx => ?_, ?_, hi, h.lo⟩
  · rcases h.lost i p x hi hx with h1 | ⟨k, h1, h2, h3⟩
    · exact .inl h1
    · exact .inr ⟨k, h1, h2, ho.block h3 (ne h3 (by decide))⟩
  · obtain ⟨an, D, h0', ⟨es, clock, h1, h2⟩, h3⟩ := h.ans.ex
    refine ⟨an, D, h0', ⟨es, clock, ho.block h1 ?_, h2⟩, h3⟩
    intro e
    rw [e, h.hL] at h1
    cases h1
def LogS.takes (s : LogS) (t : Int) (c : Bool) : Bool := decide (t = s.tail) && decide (t ≠ s.cfg.st) && decide (t - s.low < s.cfg.inb) && !(c && s.closed)
def LogS.taken (s : LogS) (c : Bool) : LogS := { s with tail := s.tail + 1, closed := s.closed || c }
theorem LogI.taken {s : LogS} (h : LogI s) (c : Bool) (h1 : (s.tail : Int) ≠ s.cfg.st) (h2 : s.tail - s.low < s.cfg.inb) : LogI (s.taken c) := by
  have := h.low
  have := h.st1
  refine ⟨h.sh1, h.sh2, h.inb1, h.inb2, ?_, h.st2, ?_, ?_, fun p hp => h.cmd p ?_, fun i hi => ?_, fun i p hp => h.out i p ?_, h.cur2⟩
  · show ((s.tail + 1 : Nat) : Int) ≤ s.cfg.st
    omega
  · show s.low ≤ s.tail + 1
    omega
  · show s.tail + 1 ≤ s.low + s.cfg.inb
    omega
  · have : s.tail + 1 ≤ p := hp
    omega
  · rcases h.cur1 i hi with h | h
    · exact .inl h
    · refine .inr ⟨h.1, ?_⟩
      show s.cur i ≤ ((s.tail + 1 : Nat) : Int)
      omega
  · have : s.tail + 1 ≤ p := hp
    omega
set_option maxHeartbeats 2000000 in
theorem logTake {w : World} {lo L : Nat} {b : LogB} {s : LogS} (h : LogAt w lo L b s) (t : Int) (c : Bool) (r : Bool) (hr : s.takes t c = r) (ht : -9223372036854775808 ≤ t ∧ t ≤ 9223372036854775807) :
    Calls Try.prog 12 #[.pointer (some ⟨L, 0, none⟩), .int .i64 t, .bool c] w fun e w' => e = .returned (.bool r) ∧ LogAt w' lo L b (if r = true then s.taken c else s) ∧ Only (fun k => k = L) w w' := by
  have c9 : w.cell? ⟨L, 9, none⟩ = some (.int .i64 s.tail) := lgCell h 9
  have c6 : w.cell? ⟨L, 6, none⟩ = some (.int .i64 s.cfg.st) := lgCell h 6
  have c1 : w.cell? ⟨L, 1, none⟩ = some (.int .i64 s.cfg.inb) := lgCell h 1
  have c10 : w.cell? ⟨L, 10, none⟩ = some (.bool s.closed) := lgCell h 10
  have hlow := fun nq => logLow (h.below (bl_drewN (Below.refl _ w) nq))
  have HLOW := Lib.hid hlow
  have HH := Lib.hid h
  have hi := h.inv.low
  have hs1 := h.inv.st1
  have hs2 := h.inv.st2
  clear hlow
  have stay : ∀ j, LogAt (w.drewN j) lo L b s ∧ Only (fun k => k = L) w (w.drewN j) := fun j => ⟨HH.out.below (bl_drewN (Below.refl _ w) j), (Only.refl _ w).drewN j⟩
  have STAY := Lib.hid stay
  clear h stay
  unfold LogS.takes at hr
  by_cases h1 : t = s.tail
  · subst h1
    rw [decide_eq_true rfl, Bool.true_and] at hr
    have e1 : ((s.tail : Int) != s.tail) = false := by simp
    by_cases h2 : (s.tail : Int) = s.cfg.st
    · rw [decide_eq_false (by simpa using h2)] at hr
      simp only [Bool.false_and] at hr
      subst hr
      have e2 : ((s.tail : Int) == s.cfg.st) = true := by simpa using h2
      go_enter Try.func12, Try.ntmps12
      go_wp2_with fail
      go_quiet (fail)
      go_wp2_with fail
      go_ret
      exact ⟨rfl, STAY.out _⟩
    · rw [decide_eq_true h2, Bool.true_and] at hr
      have e2 : ((s.tail : Int) == s.cfg.st) = false := by simpa using h2
      by_cases h3 : (s.tail : Int) - s.low < s.cfg.inb
      · rw [decide_eq_true h3, Bool.true_and] at hr
        have d3 : decide ((s.cfg.inb : Int) ≤ (s.tail : Int) - s.low) = false := decide_eq_false (by omega)
        have g10 : w.frozen? ⟨L, 10, none⟩ = false := free_of_blk (cs := lgCells b s) HH.out.hL 10
        have g9 : w.frozen? ⟨L, 9, none⟩ = false := free_of_blk (cs := lgCells b s) HH.out.hL 9
        have hfin : ∀ j, LogAt (((w.drewN j).setCell ⟨L, 9, none⟩ (.int .i64 ((s.tail : Int) + 1))).setCell ⟨L, 10, none⟩ (.bool (s.closed || c))) lo L b (s.taken c) ∧ Only (fun k => k = L) w (((w.drewN j).setCell ⟨L, 9, none⟩ (.int .i64 ((s.tail : Int) + 1))).setCell ⟨L, 10, none⟩ (.bool (s.closed || c))) := fun j => by
          have ho := (((Only.refl (fun k => k = L) w).drewN j).setCell ⟨L, 9, none⟩ (.int .i64 ((s.tail : Int) + 1)) (.inl rfl)).setCell ⟨L, 10, none⟩ (.bool (s.closed || c)) (.inl rfl)
          refine ⟨HH.out.tailed ho (s.tail + 1) (s.closed || c) ?_ (HH.out.inv.taken c h2 (by omega)), ho⟩
          have := setCell_same (i := 10) (setCell_same (i := 9) (w := w.drewN j) HH.out.hL (.int .i64 ((s.tail : Int) + 1))) (.bool (s.closed || c))
          rw [this]
          simp [lgCells]
        have HF := Lib.hid hfin
        clear hfin
        cases hc : s.closed <;> cases c
        all_goals
          rw [hc] at c10 hr
          simp only [Bool.and_false, Bool.and_true, Bool.not_false, Bool.not_true, Bool.false_and, Bool.true_and, Bool.and_self] at hr
          subst hr
        iterate 3
          · have hf := HF.out
            rw [hc] at hf
            simp only [Bool.or_false, Bool.or_true, Bool.false_or, Bool.true_or, Bool.or_self] at hf
            have HF2 := Lib.hid hf
            clear hf hc
            go_enter Try.func12, Try.ntmps12
            go_wp2_with fail
            go_quiet ((go_at_call 21; exact Calls.quiet_of_same (HLOW.out _)))
            go_wp2_with fail
            go_ret
            exact ⟨rfl, HF2.out _⟩
        · clear hc
          go_enter Try.func12, Try.ntmps12
          go_wp2_with fail
          go_quiet ((go_at_call 21; exact Calls.quiet_of_same (HLOW.out _)))
          go_wp2_with fail
          go_ret
          exact ⟨rfl, STAY.out _⟩
      · rw [decide_eq_false h3] at hr
        simp only [Bool.false_and] at hr
        subst hr
        have d3 : decide ((s.cfg.inb : Int) ≤ (s.tail : Int) - s.low) = true := decide_eq_true (by omega)
        go_enter Try.func12, Try.ntmps12
        go_wp2_with fail
        go_quiet ((go_at_call 21; exact Calls.quiet_of_same (HLOW.out _)))
        go_wp2_with fail
        go_ret
        exact ⟨rfl, STAY.out _⟩
  · rw [decide_eq_false h1] at hr
    simp only [Bool.false_and] at hr
    subst hr
    have e1 : (t != (s.tail : Int)) = true := by simpa using h1
    go_enter Try.func12, Try.ntmps12
    go_wp2_with fail
    go_quiet (fail)
    go_wp2_with fail
    go_ret
    exact ⟨rfl, STAY.out _⟩
theorem logTake_to {w : World} {lo L : Nat} {b : LogB} {s : LogS} (h : LogAt w lo L b s) (t : Int) (c : Bool) (r : Bool) (hr : s.takes t c = r) (s' : LogS) (hs' : (if r = true then s.taken c else s) = s') (ht : -9223372036854775808 ≤ t ∧ t ≤ 9223372036854775807) :
    Calls Try.prog 12 #[.pointer (some ⟨L, 0, none⟩), .int .i64 t, .bool c] w fun e w' => e = .returned (.bool r) ∧ LogAt w' lo L b s' ∧ Only (fun k => k = L) w w' := by
  have := logTake h t c r hr ht
  rwa [hs'] at this
end Go.Proofs.Ytibbnikfecilhaa
