/- The document's Holds and All. -/
import Derived.Test.YtecdnpdmjbcioaaRuD
namespace Go.Proofs.Ytecdnpdmjbcioaa
open Go.RowKit
set_option linter.unusedVariables false
set_option linter.unusedSimpArgs false

set_option maxHeartbeats 1000000 in
theorem rholds_any {w : World} {A B C : Option Addr} {n c n2 c2 m c' : Nat} {cl cr : List CodeV} {ss : List (List Ev)} (op : Int) (hl : CodesAt w A n cl) (hr : CodesAt w C n2 cr) (hs : SetsAt w B m ss) (hn : n ≤ 100000) (hn2 : n2 ≤ 100000) (hm : m ≤ 1000000) (hms : ∀ s ∈ ss, s.length ≤ 1000000) :
    Calls Try.prog 36 #[.agg #[.int .i64 op, .slice A n c, .slice C n2 c2], .slice B m c'] w fun e w' => e = .returned (.bool (holdsRes op cl cr ss)) ∧ Below w.heap.size w w' := by
  have HL := Lib.hid hl
  have HR := Lib.hid hr
  have HS := Lib.hid hs
  have HM := Lib.hid hms
  clear hl hr hs hms
  unfold holdsRes
  go_enter Try.func36, Try.ntmps36
  go_wp2_with fail
  have hb0 : Below w.heap.size w (w.alloc (.cells #[.int .i64 op, .slice A n c, .slice C n2 c2] 59)) := bl_alloc (Below.refl _ w) _
  have hx0 := alloc_new w (.cells #[.int .i64 op, .slice A n c, .slice C n2 c2] 59)
  have hlt := block_lt hx0
  generalize w.alloc (.cells #[.int .i64 op, .slice A n c, .slice C n2 c2] 59) = w1 at *
  refine (reval_any (HL.out.below hb0) (HS.out.below hb0) hn hm HM.out).mono ?_
  rintro e w2 ⟨rfl, hb2⟩
  obtain ⟨a, one, hA⟩ : ∃ a one, evalRes ss cl = (a, one) := ⟨_, _, rfl⟩
  obtain ⟨b, two, hB⟩ : ∃ a one, evalRes ss cr = (a, one) := ⟨_, _, rfl⟩
  simp only [hA, hB]
  have HA := Lib.hid hA
  have HB := Lib.hid hB
  clear hA hB
  have hx2 := (hb2.block _ hlt).trans hx0
  have hx2' := alloc_old hx2 (.cells #[.int .i64 a, .bool one] 106)
  have x2 : (w2.alloc (.cells #[.int .i64 a, .bool one] 106)).cell? ⟨w.heap.size, 2, none⟩ = some (.slice C n2 c2) := cell_of_blk hx2' 2
  have hb02 := bl_alloc (bl_then hb0 hb2) (.cells #[.int .i64 a, .bool one] 106)
  have hlt2 := block_lt hx2'
  have hy2 := alloc_new w2 (.cells #[.int .i64 a, .bool one] 106)
  go_wp2_with fail
  obtain ⟨D, hDe⟩ : ∃ D, w2.heap.size = D := ⟨_, rfl⟩
  rw [hDe] at hy2
  try rw [hDe]
  generalize w2.alloc (.cells #[.int .i64 a, .bool one] 106) = w3 at *
  refine (reval_any (HR.out.below hb02) (HS.out.below hb02) hn2 hm HM.out).mono ?_
  rintro e w4 ⟨rfl, hb4⟩
  rw [HB.out]
  have hltD := block_lt hy2
  have hx4 := alloc_old ((hb4.block _ hlt2).trans hx2') (.cells #[.int .i64 b, .bool two] 106)
  have hy4 := alloc_old ((hb4.block _ hltD).trans hy2) (.cells #[.int .i64 b, .bool two] 106)
  have x0 : (w4.alloc (.cells #[.int .i64 b, .bool two] 106)).cell? ⟨w.heap.size, 0, none⟩ = some (.int .i64 op) := cell_of_blk hx4 0
  have y0 : (w4.alloc (.cells #[.int .i64 b, .bool two] 106)).cell? ⟨D, 0, none⟩ = some (.int .i64 a) := cell_of_blk hy4 0
  have y1 : (w4.alloc (.cells #[.int .i64 b, .bool two] 106)).cell? ⟨D, 1, none⟩ = some (.bool one) := cell_of_blk hy4 1
  have hb04 := bl_alloc (bl_then hb02 hb4) (.cells #[.int .i64 b, .bool two] 106)
  clear hx0 hx2 x2 hx2' hx4 hy4 hb0 hb2 hb4 hy2 hlt hlt2 hltD
  cases one <;> cases two
  iterate 3
    · go_wp2_with fail
      go_ret
      refine ⟨?_, hb04⟩
      rw [HA.out, HB.out]
      rfl
  · go_wp2_with fail
    refine (rtest_any _ _ _ _).mono ?_
    rintro e w5 ⟨rfl, rfl⟩
    go_wp2_with fail
    go_ret
    refine ⟨?_, hb04⟩
    rw [HA.out, HB.out]
    rfl

set_option maxHeartbeats 2000000 in
theorem rall_any {w : World} {A B : Option Addr} {n c m c' : Nat} {rs : List RuleV} {ss : List (List Ev)} (h : RulesAt w A n rs) (hs : SetsAt w B m ss) (hm : m ≤ 1000000) (hms : ∀ s ∈ ss, s.length ≤ 1000000) :
    Calls Try.prog 17 #[.slice A n c, .slice B m c'] w fun e w' => e = .returned (.bool (allRes rs ss)) ∧ Below w.heap.size w w' := by
  have hf := h.few
  have H := Lib.hid h
  have HS := Lib.hid hs
  have HM := Lib.hid hms
  clear h hs hms
  go_enter Try.func17, Try.ntmps17
  go_wp2_with fail
  go_loopw [5, 6] (fun i _ wr => ∃ I : Nat, I ≤ n ∧ i = .int .i64 I ∧ Below w.heap.size w wr ∧ Hid (allRes (rs.take I) ss = true)) (fun i _ _ => n - (intOf i).toNat)
  case atStart => exact ⟨0, Nat.zero_le _, rfl, Below.refl _ _, Lib.hid rfl⟩
  case round =>
    obtain ⟨I, hI, rfl, hb, HT⟩ := hrel
    have HB := Lib.hid hb
    by_cases hlt : I < n
    · have iI : (I : Int) < n := by omega
      obtain ⟨b, off, r, rfl, hr, hok, h0, h1, h2⟩ := (H.out.below hb).at_ hlt
      have HR := Lib.hid hr
      have HK := Lib.hid hok
      clear hb hr hok
      go_wp2_with fail
      have hb2 : Below wr.heap.size wr wr := Below.refl _ _
      refine (rholds_any r.op (HK.out.left.below hb2) (HK.out.right.below hb2) (HS.out.below (bl_then HB.out hb2)) (Nat.le_trans HK.out.ln (by decide)) (Nat.le_trans HK.out.rn (by decide)) hm HM.out).mono ?_
      rintro e w2 ⟨rfl, hb3⟩
      have HB2 := Lib.hid (bl_then HB.out (bl_then hb2 hb3))
      clear hb2 hb3 h0 h1 h2
      cases hv : holdsRes r.op r.l r.r ss with
      | true =>
        have HV := Lib.hid hv
        clear hv
        go_wp2_with fail
        go_roundw
        case rel => exact ⟨I + 1, hlt, by simp, HB2.out, Lib.hid (all_take HR.out HT.out HV.out)⟩
        case measure => simp [intOf]; omega
      | false =>
        have HV := Lib.hid hv
        clear hv
        go_wp2_with fail
        go_ret
        refine ⟨?_, HB2.out⟩
        rw [all_false HR.out HV.out]
        rfl
    · have iI : ¬ (I : Int) < n := by omega
      obtain rfl : I = n := by omega
      go_wp2_with fail
      go_ret
      refine ⟨?_, HB.out⟩
      have := HT.out
      rw [List.take_of_length_le (by rw [H.out.len]; exact Nat.le_refl _)] at this
      rw [this]
      rfl
end Go.Proofs.Ytecdnpdmjbcioaa
