/- Chapter 19: the document's Collect. (Printed by lggen.py.) -/
import Derived.Test.YtibbnikfecilhaaLgD4
namespace Go.Proofs.Ytibbnikfecilhaa
open Go.RowKit
set_option linter.unusedVariables false
set_option linter.unusedSimpArgs false

section
variable {w : World} {lo D C : Nat} {d : DocB} {s : LogS}
/-- Is a worker behind the command that is next to be done? -/
def okI (d : DocB) (s : LogS) (i : Nat) : Bool := d.left i || (decide ((s.low : Int) < d.at_ i) && decide ((s.cmdV s.low).kind ≠ 5))
def okTo (d : DocB) (s : LogS) (I : Nat) : Bool := (s.look s.low).isSome && (List.range I).all (okI d s)
theorem okTo_succ (d : DocB) (s : LogS) (I : Nat) : okTo d s (I + 1) = (okTo d s I && okI d s I) := by
  unfold okTo
  rw [List.range_succ, List.all_append]
  simp [Bool.and_assoc]
theorem okI_waits (h : RefAt w lo D C d s) {i : Nat} (hi : i < s.cfg.sh) : waitsB s.low (s.cmdV s.low).kind (s.cur i) = !okI d s i := by
  unfold waitsB okI
  rw [h.cur i hi]
  have h0 := h.at0 i
  cases d.left i
  · rw [if_neg Bool.false_ne_true, decide_eq_true (p := d.at_ i ≠ -1) (by omega)]
    by_cases g1 : (s.low : Int) < d.at_ i
    · rw [decide_eq_false (p := d.at_ i ≤ s.low) (by omega), decide_eq_true g1]
      by_cases g2 : (s.cmdV s.low).kind = 5
      · rw [decide_eq_true g2, decide_eq_false (fun g => g g2)]; rfl
      · rw [decide_eq_false g2, decide_eq_true g2]; rfl
    · rw [decide_eq_true (p := d.at_ i ≤ s.low) (by omega), decide_eq_false g1]; rfl
  · rw [if_pos rfl]; rfl
theorem ok_collect (h : RefAt w lo D C d s) : s.collect.isSome = okTo d s s.cfg.sh := by
  unfold LogS.collect okTo
  cases hl : s.look s.low with
  | none => rfl
  | some c =>
    have hc : s.cmdV s.low = c := by
      rw [ref_lies h (Nat.le_refl _)] at hl
      unfold LogS.cmdV
      rw [hl]
      rfl
    simp only
    have hw : anyWaits s c.kind = !((List.range s.cfg.sh).all (okI d s)) := by
      unfold anyWaits
      rw [← hc]
      cases ha : (List.range s.cfg.sh).all (okI d s)
      · refine decide_eq_true ?_
        obtain ⟨i, hi, hn⟩ := List.all_eq_false.1 ha
        have hi : i < s.cfg.sh := by simpa using hi
        refine ⟨i, hi, ?_⟩
        rw [okI_waits h hi]
        simpa using hn
      · refine decide_eq_false ?_
        rintro ⟨i, hi, hn⟩
        rw [okI_waits h hi, List.all_eq_true.1 ha i (by simpa using hi)] at hn
        cases hn
    rw [hw]
    cases (List.range s.cfg.sh).all (okI d s) <;> rfl
/-- What is collected. -/
def RefCol (w : World) (d : DocB) (s : LogS) (b : Bool) (e : Ending) (w' : World) : Prop :=
  e = .returned (.tuple #[if b = true then .slice (some ⟨d.ob s.low, 0, none⟩) s.cfg.sh s.cfg.sh else .slice none 0 0, .bool b]) ∧ Below w.heap.size w w'
set_option maxHeartbeats 8000000 in
set_option maxRecDepth 20000 in
theorem refCollect (h : RefAt w lo D C d s) (r : Bool) (hr : s.collect.isSome = r) : Calls Try.prog 56 #[.pointer (some ⟨D, 0, none⟩)] w (RefCol w d s r) := by
  have c9 : w.cell? ⟨D, 9, none⟩ = some (.int .i64 s.low) := h.cell 9
  obtain ⟨l0, hl0⟩ : ∃ l0, (s.look s.low).isSome = l0 := ⟨_, rfl⟩
  have HLI := Lib.hid (refLies h s.low l0 hl0)
  have HH := Lib.hid h
  have HL0 := Lib.hid hl0
  have hOK : Hid (okTo d s s.cfg.sh = r) := Lib.hid (by rw [← ok_collect h]; exact hr)
  have hshb := h.inv.sh2
  have hbnd := h.small
  clear h hr hl0
  go_enter Try.func56, Try.ntmps56
  go_wp2_with fail
  refine HLI.out.mono ?_
  rintro e w' ⟨rfl, rfl⟩
  have hb0 := Lib.hid (Below.refl w'.heap.size w')
  clear c9
  go_wp2_with fail
  obtain ⟨wo, hwo⟩ : ∃ wo, wo = w' := ⟨_, rfl⟩
  subst hwo
  go_loopw [4, 5] (fun b i wr => ∃ I : Nat, I ≤ s.cfg.sh ∧ i = .int .i64 I ∧ b = .bool (okTo d s I) ∧ Below wo.heap.size wo wr) (fun _ i _ => s.cfg.sh - (intOf i).toNat)
  case atStart => exact ⟨0, Nat.zero_le _, rfl, by unfold okTo; rw [HL0.out]; simp, hb0.out⟩
  case round =>
    obtain ⟨I, hI, rfl, rfl, hb⟩ := hrel
    have HW := Lib.hid (HH.out.below hb)
    have HB := Lib.hid hb
    clear hb
    have c7 : wr.cell? ⟨D, 7, none⟩ = some (.slice d.A s.tail d.cap) := HW.out.cell 7
    have c9 : wr.cell? ⟨D, 9, none⟩ = some (.int .i64 s.low) := HW.out.cell 9
    have c10 : wr.cell? ⟨D, 10, none⟩ = some (.slice (some ⟨d.wb, 0, none⟩) s.cfg.sh s.cfg.sh) := HW.out.cell 10
    by_cases hIs : I < s.cfg.sh
    · have hsu := okTo_succ d s I
      obtain ⟨x0, x1⟩ := HW.out.wk hIs
      cases hok : okTo d s I
      · rw [hok, Bool.false_and] at hsu
        have HSU := Lib.hid hsu
        clear hsu hok c7 c9 x0 x1
        go_wp2_with fail
        go_quiet (fail)
        go_wp2_with fail
        go_roundw
        case rel => exact ⟨I + 1, hIs, by simp, by rw [HSU.out], bl_drewN HB.out _⟩
        case measure => simp [intOf]; omega
      · rw [hok, Bool.true_and] at hsu
        have hlk : (s.look s.low).isSome = true := by
          unfold okTo at hok
          exact (Bool.and_eq_true_iff.1 hok).1
        obtain ⟨_, hlt⟩ := look_some HW.out.inv hlk
        obtain ⟨g, hA, _, hcap, _, hcg, _⟩ := HW.out.block hlt
        rw [hA] at c7
        have y2 : wr.cell? ⟨g, s.low * 20 + 2, none⟩ = some (.int .i64 (s.cmdV s.low).kind) := hcg 2 (by decide)
        have HSU := Lib.hid hsu
        have h0 := HW.out.at0 I
        clear hsu hok hcg hA hlk
        unfold okI at HSU
        cases hlf : d.left I
        · rw [hlf, Bool.false_or] at HSU
          rw [hlf] at x1
          clear hlf
          generalize d.at_ I = at_ at *
          generalize (s.cmdV s.low).kind = kd at *
          by_cases g1 : (s.low : Int) < at_
          · have d1 : decide ((s.low : Int) < at_) = true := decide_eq_true g1
            have d2 : decide (at_ > (s.low : Int)) = true := decide_eq_true g1
            by_cases g2 : kd = 5
            · have d3 : (kd != 5) = false := by simp [g2]
              have d4 : decide (kd ≠ 5) = false := decide_eq_false (fun g => g g2)
              rw [d1, d4] at HSU
              clear g2 d4
              go_wp2_with fail
              go_quiet (fail)
              go_wp2_with fail
              go_roundw
              case rel => exact ⟨I + 1, hIs, by simp, by rw [HSU.out]; rfl, bl_drewN HB.out _⟩
              case measure => simp [intOf]; omega
            · have d3 : (kd != 5) = true := by simpa using g2
              have d4 : decide (kd ≠ 5) = true := decide_eq_true g2
              rw [d1, d4] at HSU
              clear g2 d4
              go_wp2_with fail
              go_quiet (fail)
              go_wp2_with fail
              go_roundw
              case rel => exact ⟨I + 1, hIs, by simp, by rw [HSU.out]; rfl, bl_drewN HB.out _⟩
              case measure => simp [intOf]; omega
          · have d1 : decide ((s.low : Int) < at_) = false := decide_eq_false g1
            have d2 : decide (at_ > (s.low : Int)) = false := decide_eq_false g1
            rw [d1, Bool.false_and] at HSU
            go_wp2_with fail
            go_quiet (fail)
            go_wp2_with fail
            go_roundw
            case rel => exact ⟨I + 1, hIs, by simp, by rw [HSU.out], bl_drewN HB.out _⟩
            case measure => simp [intOf]; omega
        · rw [hlf, Bool.true_or] at HSU
          rw [hlf] at x1
          clear hlf
          go_wp2_with fail
          go_quiet (fail)
          go_wp2_with fail
          go_roundw
          case rel => exact ⟨I + 1, hIs, by simp, by rw [HSU.out], bl_drewN HB.out _⟩
          case measure => simp [intOf]; omega
    · obtain rfl : I = s.cfg.sh := by omega
      have hok := hOK.out
      clear hIs
      cases r
      · rw [hok]
        clear hok c7 c9
        go_wp2_with fail
        go_ret2
        exact ⟨rfl, HB.out⟩
      · have hlk : (s.look s.low).isSome = true := by
          unfold okTo at hok
          exact (Bool.and_eq_true_iff.1 hok).1
        obtain ⟨_, hlt⟩ := look_some HW.out.inv hlk
        obtain ⟨g, hA, _, hcap, _, hcg, _⟩ := HW.out.block hlt
        rw [hA] at c7
        have y2 : wr.cell? ⟨g, s.low * 20 + 16, none⟩ = some (.slice (some ⟨d.ob s.low, 0, none⟩) s.cfg.sh s.cfg.sh) := hcg 16 (by decide)
        rw [hok]
        clear hok hcg hA hlk
        go_wp2_with fail
        go_quiet (fail)
        go_wp2_with fail
        go_ret2
        exact ⟨rfl, bl_drewN HB.out _⟩
end
end Go.Proofs.Ytibbnikfecilhaa
