/- Chapter 19: LogPlays. (Printed by lggen.py.) -/
import Derived.Test.YtibbnikfecilhaaLgLK
namespace Go.Proofs.Ytibbnikfecilhaa
open Go.RowKit
set_option linter.unusedVariables false
set_option linter.unusedSimpArgs false

set_option maxHeartbeats 8000000 in
set_option maxRecDepth 100000 in
theorem plays_law (q0 q1 q2 : Int) (A : Option Addr) (N cap : Nat) (l : List (Int × Int × Int)) (w : World) (hq0 : -9223372036854775808 ≤ q0 ∧ q0 ≤ 9223372036854775807) (hq1 : -9223372036854775808 ≤ q1 ∧ q1 ≤ 9223372036854775807) (hq2 : -9223372036854775808 ≤ q2 ∧ q2 ≤ 9223372036854775807) (hrow : RowAt (kPair (kInt .i64) (kPair (kInt .i64) (kInt .i64))) 24 w A N l) :
    Calls Try.prog 7 #[.agg #[.int .i64 q0, .int .i64 q1, .int .i64 q2], .slice A N cap] w fun e w' => e = .returned (.bool true) ∧ Below w.heap.size w w' := by
  have hx := hrow.acts
  have hlen := hx.small
  have HX := Lib.hid hx
  obtain ⟨c, hcv⟩ : ∃ c, cfgOf q0 q1 q2 = c := ⟨_, rfl⟩
  have hcr : c.asI.rightB = true := by rw [← hcv]; exact cfgOf_right q0 q1 q2
  have hcs : c.st ≤ 24 ∧ c.sh ≤ 3 ∧ c.inb ≤ 5 := by
    rw [← hcv]
    obtain ⟨e1, e2, e3⟩ := cfgOf_sh q0 q1 q2
    omega
  have HCF : Hid (∀ W, Calls Try.prog 23 #[.agg #[.int .i64 q0, .int .i64 q1, .int .i64 q2]] W fun e w' => e = .returned (.agg c.cells.toArray) ∧ Below W.heap.size W w') := Lib.hid fun W => by
    refine (config_any q0 q1 q2 W).mono ?_
    rintro e w' ⟨rfl, hb⟩
    subst hcv
    exact ⟨rfl, hb⟩
  have HCR := Lib.hid hcr
  have HCS := Lib.hid hcs
  have hz := alloc_new w (.cells #[.int .i64 q0, .int .i64 q1, .int .i64 q2] 64)
  have hb0 := bl_alloc (Below.refl _ w) (.cells #[.int .i64 q0, .int .i64 q1, .int .i64 q2] 64)
  have HZ := Lib.hid hz
  have HB0 := Lib.hid hb0
  clear hrow hx hcv hcr hcs hq0 hq1 hq2 hz hb0
  go_enter Try.func7, Try.ntmps7
  go_wp2_with fail
  refine (awake19 _).mono ?_
  rintro e w1 ⟨rfl, hb1⟩
  have HB1 := Lib.hid (bl_then HB0.out hb1)
  have HZ1 := Lib.hid ((hb1.block _ (block_lt HZ.out)).trans HZ.out)
  obtain ⟨x0, x1, x2⟩ := three_of HZ1.out
  clear hb1
  go_wp2_with fail
  refine (HCF.out _).mono ?_
  rintro e w2 ⟨rfl, hb2⟩
  have HB2 := Lib.hid (bl_then HB1.out hb2)
  have HZ2 := Lib.hid ((hb2.block _ (block_lt HZ1.out)).trans HZ1.out)
  clear hb2 x0 x1 x2
  simp only [CfgV.cells]
  go_wp2_with fail
  refine (newLog c HCR.out).mono ?_
  rintro e w4 ⟨L, b, rfl, h4, hb4⟩
  have HB4 := Lib.hid (bl_then HB2.out hb4)
  have HZ4 := Lib.hid ((hb4.block _ (block_lt HZ2.out)).trans HZ2.out)
  have HL4 := Lib.hid h4
  clear h4 hb4
  obtain ⟨x0, x1, x2⟩ := three_of HZ4.out
  go_wp2_with fail
  refine (HCF.out _).mono ?_
  rintro e w5 ⟨rfl, hb5⟩
  have HB5 := Lib.hid (bl_then HB4.out hb5)
  have HZ5 := Lib.hid ((hb5.block _ (block_lt HZ4.out)).trans HZ4.out)
  have HL5 := Lib.hid (HL4.out.below hb5)
  clear hb5 x0 x1 x2
  simp only [CfgV.cells]
  go_wp2_with fail
  refine (refNew c HCR.out).mono ?_
  rintro e w6 ⟨D, d, rfl, h6, hb6⟩
  have hside : Both w w6 w6 L D b (LogS.init c) := ⟨⟨_, HB2.out.size, HL5.out.below hb6⟩, ⟨_, d, HB5.out.size, h6 b.C⟩, ⟨bl_then HB5.out hb6, fun k cs fr hk => hk, fun k cs fr hk => hk⟩⟩
  have HZ6 := Lib.hid ((hb6.block _ (block_lt HZ5.out)).trans HZ5.out)
  have HSD := Lib.hid hside
  clear h6 hb6 hside
  go_wp2_with fail
  obtain ⟨wB, hwB⟩ : ∃ wB, wB = w6 := ⟨_, rfl⟩
  subst hwB
  have HBOX : Hid (∀ wr s, Both w wB wr L D b s → wr.heap[w.heap.size]? = some (.cells #[.int .i64 q0, .int .i64 q1, .int .i64 q2] 64 (0, 0))) := Lib.hid fun wr s h => h.bel.box3 _ _ _ HZ6.out
  have hcs1 := HCS.out.1
  have hcs2 := HCS.out.2.1
  have hcs3 := HCS.out.2.2
  go_loopw [8] (fun i wr => ∃ (I : Nat) (s : LogS), I ≤ N ∧ I ≤ 60 ∧ i = .int .i64 I ∧ Both w wB wr L D b s ∧ s.cfg = c) (fun i _ => N - (intOf i).toNat)
  case atStart => exact ⟨0, _, Nat.zero_le _, Nat.zero_le _, rfl, HSD.out, rfl⟩
  case round =>
    clear HSD HL4 HL5 HB4 HZ4 HZ5 HB5
    obtain ⟨I, s, hIN, hI60, rfl, hS, hCF⟩ := hrel
    have HS := Lib.hid hS
    have HCFG := Lib.hid hCF
    clear hS hCF
    by_cases h1 : I < N
    · by_cases h2 : I < 60
      · obtain ⟨bs, off, k, at_, n, rfl, hli, ⟨hk, ht, hn⟩, hc⟩ := HX.out.at_ h1
        obtain ⟨e0, e1, e2⟩ := hc wr HS.out.bel.bel
        have hst : s.tail ≤ 24 := by
          have := HS.out.inv.st1
          rw [HCFG.out] at this
          omega
        clear hli hk ht hn hc
        go_wp2_with fail
        refine (does_any HS.out k at_ n (by omega)).mono ?_
        rintro e w6 ⟨rfl, x, h6⟩
        have hcf6 : (stepTo s k at_ n x).cfg = c := (steps_any s k at_ n x).cfg.trans HCFG.out
        generalize stepTo s k at_ n x = s6 at *
        have H6 := Lib.hid h6
        have HC6 := Lib.hid hcf6
        obtain ⟨lo6, _, hl6⟩ := h6.log
        obtain ⟨lo7, d7, _, hr6⟩ := h6.ref
        have HLK := Lib.hid (looks_any hl6 hr6)
        clear h6 hcf6 hl6 hr6 e0 e1 e2 HS HCFG
        go_wp2_with fail
        refine HLK.out.mono ?_
        rintro e w7 ⟨rfl, hb7⟩
        have H7 := Lib.hid (H6.out.below hb7)
        clear hb7
        go_wp2_with fail
        go_roundw
        case rel => exact ⟨I + 1, s6, h1, h2, by simp, H7.out, HC6.out⟩
        case measure => simp [intOf]; omega
      · skip
        have HZD : Hid (∀ W, Below wr.heap.size wr W → W.heap[w.heap.size]? = some (.cells #[.int .i64 q0, .int .i64 q1, .int .i64 q2] 64 (0, 0))) := Lib.hid fun W hW => (hW.block _ (block_lt (HBOX.out wr s HS.out))).trans (HBOX.out wr s HS.out)
        obtain ⟨lo1, _, hl1⟩ := HS.out.log
        have HCO : Hid (∀ W, Below wr.heap.size wr W → Calls Try.prog 30 #[.pointer (some ⟨L, 0, none⟩)] W fun e w' => e = .returned (.agg c.cells.toArray) ∧ Below W.heap.size W w') := Lib.hid fun W hW => by
          rw [← HCFG.out]
          exact logConfig (hl1.below hW)
        clear hl1
        simp only [CfgV.cells] at HCF HCO
        have HCF2 := HCF
        go_wp2_with fail
        go_region_held3 (fun w' => w'.cell? ⟨w.heap.size, 0, none⟩ = some (.int .i64 q0) ∧ w'.cell? ⟨w.heap.size, 1, none⟩ = some (.int .i64 q1) ∧ w'.cell? ⟨w.heap.size, 2, none⟩ = some (.int .i64 q2)) (first | exact three_of (HZD.out _ hb9') | exact three_of (HZD.out _ hb8') | exact three_of (HZD.out _ (bl_drew (Below.refl _ _))))
          (first
            | (go_at_call 30; refine (HCO.out _ (bl_drew (Below.refl _ _))).mono ?_; rintro e w8 ⟨rfl, hb8⟩; have hb8' := bl_then (bl_drew (Below.refl _ wr)) hb8)
            | (go_at_call 23; refine (HCF2.out _).mono ?_; rintro e w9 ⟨rfl, hb9⟩; have hb9' := bl_then hb8' hb9))
        all_goals
          go_wp2_with fail
          go_ret
          exact ⟨by simp, HS.out.bel.bel.trans (hb9'.mono HS.out.bel.bel.size)⟩
    · skip
      have HZD : Hid (∀ W, Below wr.heap.size wr W → W.heap[w.heap.size]? = some (.cells #[.int .i64 q0, .int .i64 q1, .int .i64 q2] 64 (0, 0))) := Lib.hid fun W hW => (hW.block _ (block_lt (HBOX.out wr s HS.out))).trans (HBOX.out wr s HS.out)
      obtain ⟨lo1, _, hl1⟩ := HS.out.log
      have HCO : Hid (∀ W, Below wr.heap.size wr W → Calls Try.prog 30 #[.pointer (some ⟨L, 0, none⟩)] W fun e w' => e = .returned (.agg c.cells.toArray) ∧ Below W.heap.size W w') := Lib.hid fun W hW => by
        rw [← HCFG.out]
        exact logConfig (hl1.below hW)
      clear hl1
      simp only [CfgV.cells] at HCF HCO
      have HCF2 := HCF
      go_wp2_with fail
      go_region_held3 (fun w' => w'.cell? ⟨w.heap.size, 0, none⟩ = some (.int .i64 q0) ∧ w'.cell? ⟨w.heap.size, 1, none⟩ = some (.int .i64 q1) ∧ w'.cell? ⟨w.heap.size, 2, none⟩ = some (.int .i64 q2)) (first | exact three_of (HZD.out _ hb9') | exact three_of (HZD.out _ hb8') | exact three_of (HZD.out _ (bl_drew (Below.refl _ _))))
        (first
          | (go_at_call 30; refine (HCO.out _ (bl_drew (Below.refl _ _))).mono ?_; rintro e w8 ⟨rfl, hb8⟩; have hb8' := bl_then (bl_drew (Below.refl _ wr)) hb8)
          | (go_at_call 23; refine (HCF2.out _).mono ?_; rintro e w9 ⟨rfl, hb9⟩; have hb9' := bl_then hb8' hb9))
      all_goals
        go_wp2_with fail
        go_ret
        exact ⟨by simp, HS.out.bel.bel.trans (hb9'.mono HS.out.bel.bel.size)⟩
end Go.Proofs.Ytibbnikfecilhaa
