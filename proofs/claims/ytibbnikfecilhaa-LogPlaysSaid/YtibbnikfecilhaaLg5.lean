/- Chapter 19: what all told of the command that is next. (Printed by lggen.py.) -/
import Derived.Test.YtibbnikfecilhaaLg4
namespace Go.Proofs.Ytibbnikfecilhaa
open Go.RowKit
set_option linter.unusedVariables false
set_option linter.unusedSimpArgs false

def waitsB (low : Nat) (kd : Int) (at_ : Int) : Bool := decide (at_ ≠ -1) && (decide (at_ ≤ low) || decide (kd = 5))
theorem waits_any {w : World} {lo L P Q : Nat} {b : LogB} {s : LogS} (h : LogAt w lo L b s) (hP : w.cell? ⟨P, 0, none⟩ = some (.pointer (some ⟨L, 0, none⟩))) (kd : Int) (hQ : w.cell? ⟨Q, 0, none⟩ = some (.int .i64 kd)) (at_ : Int) (r : Bool) (hr : waitsB s.low kd at_ = r) :
    Calls Try.prog 41 #[.int .i64 at_, .pointer (some ⟨P, 0, none⟩), .pointer (some ⟨Q, 0, none⟩)] w fun e w' => e = .returned (.bool r) ∧ w' = w := by
  have HL := Lib.hid (logLow h)
  clear h
  unfold waitsB at hr
  by_cases h1 : at_ = -1
  · subst h1
    rw [decide_eq_false (fun n => n rfl), Bool.false_and] at hr
    subst hr
    go_enter Try.func41, Try.ntmps41
    go_wp2_with fail
    go_ret
    exact ⟨rfl, rfl⟩
  · rw [decide_eq_true h1, Bool.true_and] at hr
    have e1 : (at_ != -1) = true := by simpa using h1
    by_cases h2 : at_ ≤ s.low
    · rw [decide_eq_true h2, Bool.true_or] at hr
      subst hr
      have d2 : decide (at_ ≤ (s.low : Int)) = true := decide_eq_true h2
      go_enter Try.func41, Try.ntmps41
      go_wp2_with fail
      refine HL.out.mono ?_
      rintro e w' ⟨rfl, rfl⟩
      go_wp2_with fail
      go_ret
      exact ⟨rfl, rfl⟩
    · rw [decide_eq_false h2, Bool.false_or] at hr
      subst hr
      have d2 : decide (at_ ≤ (s.low : Int)) = false := decide_eq_false h2
      have e3 : (kd == 5) = decide (kd = 5) := by rfl
      cases hk : decide (kd = 5) <;> rw [hk] at e3
      all_goals
        go_enter Try.func41, Try.ntmps41
        go_wp2_with fail
        refine HL.out.mono ?_
        rintro e w' ⟨rfl, rfl⟩
        go_wp2_with fail
        go_ret
        exact ⟨rfl, rfl⟩
/-- Does one of the cursors wait? -/
def anyWaits (s : LogS) (kd : Int) : Bool := decide (∃ i, i < s.cfg.sh ∧ waitsB s.low kd (s.cur i) = true)
theorem index_any {w : World} {lo L P Q : Nat} {b : LogB} {s : LogS} (h : LogAt w lo L b s) (hP : w.cell? ⟨P, 0, none⟩ = some (.pointer (some ⟨L, 0, none⟩))) (kd : Int) (hQ : w.cell? ⟨Q, 0, none⟩ = some (.int .i64 kd)) :
    Calls Try.prog 59 #[.slice (some ⟨b.C, 0, none⟩) s.cfg.sh s.cfg.sh, .func (.func 41) #[] #[.pointer (some ⟨P, 0, none⟩), .pointer (some ⟨Q, 0, none⟩)]] w fun e w' => ∃ v : Int, e = .returned (.int .i64 v) ∧ decide (0 ≤ v) = anyWaits s kd ∧ w' = w := by
  have hsh := h.inv.sh2
  have hcc := fun i (hi : i < s.cfg.sh) => (cell_of_blk h.curs i).trans (curCells_at s hi)
  have HW := Lib.hid fun at_ r hr => waits_any h hP kd hQ at_ r hr
  have HCC := Lib.hid hcc
  clear h hcc hP hQ
  go_enter Try.func59, Try.ntmps59
  go_wp2_with fail
  go_loopw [8] (fun i wr => ∃ I : Nat, I ≤ s.cfg.sh ∧ i = .int .i64 I ∧ (∀ j, j < I → waitsB s.low kd (s.cur j) = false) ∧ wr = w) (fun i _ => s.cfg.sh - (intOf i).toNat)
  case atStart => exact ⟨0, Nat.zero_le _, rfl, (fun j hj => by omega), rfl⟩
  case round =>
    obtain ⟨I, hI, rfl, hno, rfl⟩ := hrel
    have HNO := Lib.hid hno
    clear hno
    by_cases hlt : I < s.cfg.sh
    · have iI : (I : Int) < s.cfg.sh := by omega
      have cc := HCC.out I hlt
      cases hb : waitsB s.low kd (s.cur I)
      · have HC := Lib.hid (HW.out _ _ hb)
        have HBB := Lib.hid hb
        clear hb
        go_wp2_with fail
        refine HC.out.mono ?_
        rintro e w' ⟨rfl, rfl⟩
        go_wp2_with fail
        go_roundw
        case rel =>
          refine ⟨I + 1, hlt, by simp, fun j hj => ?_, trivial⟩
          by_cases e : j = I
          · rw [e]; exact HBB.out
          · exact HNO.out j (by omega)
        case measure => simp [intOf]; omega
      · have HC := Lib.hid (HW.out _ _ hb)
        have hany : decide ((0 : Int) ≤ (I : Nat)) = anyWaits s kd := by
          rw [decide_eq_true (by omega)]
          exact (decide_eq_true ⟨I, hlt, hb⟩).symm
        have HA := Lib.hid hany
        clear hb hany
        go_wp2_with fail
        refine HC.out.mono ?_
        rintro e w' ⟨rfl, rfl⟩
        go_wp2_with fail
        go_ret
        exact ⟨_, rfl, HA.out, rfl⟩
    · obtain rfl : I = s.cfg.sh := by omega
      have iI : ¬ (s.cfg.sh : Int) < s.cfg.sh := by omega
      have hany : decide ((0 : Int) ≤ -1) = anyWaits s kd := by
        refine Eq.symm (decide_eq_false ?_)
        rintro ⟨i, hi, h⟩
        rw [HNO.out i hi] at h
        cases h
      have HA := Lib.hid hany
      clear hany
      go_wp2_with fail
      go_ret
      exact ⟨_, rfl, HA.out, rfl⟩
theorem contains_any {w : World} {lo L P Q : Nat} {b : LogB} {s : LogS} (h : LogAt w lo L b s) (hP : w.cell? ⟨P, 0, none⟩ = some (.pointer (some ⟨L, 0, none⟩))) (kd : Int) (hQ : w.cell? ⟨Q, 0, none⟩ = some (.int .i64 kd)) (r : Bool) (hr : anyWaits s kd = r) :
    Calls Try.prog 42 #[.slice (some ⟨b.C, 0, none⟩) s.cfg.sh s.cfg.sh, .func (.func 41) #[] #[.pointer (some ⟨P, 0, none⟩), .pointer (some ⟨Q, 0, none⟩)]] w fun e w' => e = .returned (.bool r) ∧ w' = w := by
  have HC := Lib.hid (index_any h hP kd hQ)
  clear h hP hQ
  subst hr
  go_enter Try.func42, Try.ntmps42
  go_wp2_with fail
  refine HC.out.mono ?_
  rintro e w' ⟨v, rfl, hv, rfl⟩
  go_wp2_with fail
  go_ret
  exact ⟨by simp [hv], rfl⟩
end Go.Proofs.Ytibbnikfecilhaa
