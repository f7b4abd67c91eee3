/- Chapter 19: LogOnce. (Printed by lggen.py.) -/
import Derived.Test.YtibbnikfecilhaaLgDH
namespace Go.Proofs.Ytibbnikfecilhaa
open Go.RowKit
set_option linter.unusedVariables false
set_option linter.unusedSimpArgs false

/-- Are the first workers behind the low one? -/
def seenTo (s : LogS) (K : Nat) : Bool := (List.range K).all fun i => decide (s.cursor i < 0) || decide ((s.low : Int) < s.cursor i)
theorem seenTo_succ (s : LogS) (K : Nat) : seenTo s (K + 1) = (seenTo s K && (decide (s.cursor K < 0) || decide ((s.low : Int) < s.cursor K))) := by
  unfold seenTo
  rw [List.range_succ, List.all_append]
  simp
theorem seen_all {s : LogS} (hI : LogI s) (h : s.collect.isSome = true) : seenTo s s.cfg.sh = true := by
  unfold seenTo
  rw [List.all_eq_true]
  intro i hi
  have hi : i < s.cfg.sh := by simpa using hi
  have hc : s.cursor i = s.cur i := cursor_at rfl hi
  rw [hc]
  rcases (collect_seen hI h).1 i hi with e | e
  · rw [e]; rfl
  · rw [decide_eq_true e, Bool.or_true]
set_option maxHeartbeats 16000000 in
set_option maxRecDepth 100000 in
theorem once_law (q0 q1 q2 : Int) (A : Option Addr) (N cap : Nat) (l : List (Int × Int × Int)) (w : World) (hq0 : -9223372036854775808 ≤ q0 ∧ q0 ≤ 9223372036854775807) (hq1 : -9223372036854775808 ≤ q1 ∧ q1 ≤ 9223372036854775807) (hq2 : -9223372036854775808 ≤ q2 ∧ q2 ≤ 9223372036854775807) (hrow : RowAt (kPair (kInt .i64) (kPair (kInt .i64) (kInt .i64))) 24 w A N l) :
    Calls Try.prog 5 #[.agg #[.int .i64 q0, .int .i64 q1, .int .i64 q2], .slice A N cap] w fun e w' => e = .returned (.bool true) ∧ Below w.heap.size w w' := by
  have hx := hrow.acts
  have hlen := hx.small
  have HX := Lib.hid hx
  obtain ⟨c, hcv⟩ : ∃ c, cfgOf q0 q1 q2 = c := ⟨_, rfl⟩
  have hcr : c.asI.rightB = true := by rw [← hcv]; exact cfgOf_right q0 q1 q2
  have hcs : c.st ≤ 24 ∧ c.sh ≤ 3 ∧ c.inb ≤ 5 := by
    rw [← hcv]
    obtain ⟨e1, e2, e3⟩ := cfgOf_sh q0 q1 q2
    omega
  have HCF : Hid (∀ W, Calls Try.prog 23 #[.agg #[.int .i64 q0, .int .i64 q1, .int .i64 q2]] W fun e w' => e = .returned (.agg c.cells.toArray) ∧ Below W.heap.size W w') := Lib.hid fun W => by
    refine (config_any q0 q1 q2 W).mono ?_
    rintro e w' ⟨rfl, hb⟩
    subst hcv
    exact ⟨rfl, hb⟩
  have HCR := Lib.hid hcr
  have HCS := Lib.hid hcs
  have hz := alloc_new w (.cells #[.int .i64 q0, .int .i64 q1, .int .i64 q2] 64)
  have hb0 := bl_alloc (Below.refl _ w) (.cells #[.int .i64 q0, .int .i64 q1, .int .i64 q2] 64)
  have HZ := Lib.hid hz
  have HB0 := Lib.hid hb0
  clear hrow hx hcv hcr hcs hq0 hq1 hq2 hz hb0
  go_enter Try.func5, Try.ntmps5
  go_wp2_with fail
  refine (awake19 _).mono ?_
  rintro e w1 ⟨rfl, hb1⟩
  have HB1 := Lib.hid (bl_then HB0.out hb1)
  obtain ⟨x0, x1, x2⟩ := three_of ((hb1.block _ (block_lt HZ.out)).trans HZ.out)
  clear hb1
  go_wp2_with fail
  refine (HCF.out _).mono ?_
  rintro e w2 ⟨rfl, hb2⟩
  have HB2 := Lib.hid (bl_then HB1.out hb2)
  clear hb2 x0 x1 x2
  have hy3 : (w2.alloc (.cells #[.int .i64 c.sh, .int .i64 c.inb, .int .i64 c.sl, .int .i64 c.qu, .int .i64 c.ru, .int .i64 c.ou, .int .i64 c.st] 27)).heap[w2.heap.size]? = some (.cells c.cells.toArray 27 (0, 0)) := alloc_new _ _
  have hb3 : Below w.heap.size w (w2.alloc (.cells #[.int .i64 c.sh, .int .i64 c.inb, .int .i64 c.sl, .int .i64 c.qu, .int .i64 c.ru, .int .i64 c.ou, .int .i64 c.st] 27)) := bl_alloc HB2.out _
  obtain ⟨y0, y1, y2, y3, y4, y5, y6⟩ := cfg_of hy3
  have HY3 := Lib.hid hy3
  have HB3 := Lib.hid hb3
  clear hy3 hb3
  simp only [CfgV.cells]
  go_wp2_with fail
  generalize w2.heap.size = Y at *
  generalize w2.alloc (.cells #[.int .i64 c.sh, .int .i64 c.inb, .int .i64 c.sl, .int .i64 c.qu, .int .i64 c.ru, .int .i64 c.ou, .int .i64 c.st] 27) = w3 at *
  refine (newLog c HCR.out).mono ?_
  rintro e w4 ⟨L, b, rfl, h4, hb4⟩
  have HY4 := Lib.hid ((hb4.block _ (block_lt HY3.out)).trans HY3.out)
  have HB4 := Lib.hid (bl_then HB3.out hb4)
  have HL4 := Lib.hid h4
  clear h4 hb4 y0 y1 y2 y3 y4 y5 y6
  obtain ⟨y0, y1, y2, y3, y4, y5, y6⟩ := cfg_of HY4.out
  go_wp2_with fail
  refine (refNew c HCR.out).mono ?_
  rintro e w5 ⟨D, d, rfl, h5, hb5⟩
  have hy5 := (hb5.block _ (block_lt HY4.out)).trans HY4.out
  have hside : Both w w5 w5 L D b (LogS.init c) := ⟨⟨_, HB3.out.size, HL4.out.below hb5⟩, ⟨_, d, HB4.out.size, h5 b.C⟩, ⟨bl_then HB4.out hb5, fun k cs fr hk => hk⟩⟩
  have HY5 := Lib.hid hy5
  have HSD := Lib.hid hside
  clear h5 hb5 hside y0 y1 y2 y3 y4 y5 y6 hy5
  go_wp2_with fail
  obtain ⟨wB, hwB⟩ : ∃ wB, wB = w5 := ⟨_, rfl⟩
  subst hwB
  have HBOX : Hid (∀ wr s, Both w wB wr L D b s → wr.heap[Y]? = some (.cells c.cells.toArray 27 (0, 0))) := Lib.hid fun wr s h => h.bel.box Y _ _ HY5.out
  have hcs1 := HCS.out.1
  have hcs2 := HCS.out.2.1
  have hcs3 := HCS.out.2.2
  go_loopw [9, 10] (fun tk i wr => ∃ (I : Nat) (s : LogS), I ≤ N ∧ I ≤ 60 ∧ i = .int .i64 I ∧ tk = .int .i64 s.tail ∧ Both w wB wr L D b s ∧ s.cfg = c) (fun _ i _ => N - (intOf i).toNat)
  case atStart => exact ⟨0, _, Nat.zero_le _, Nat.zero_le _, rfl, rfl, HSD.out, rfl⟩
  case round =>
    clear HSD HL4 HB4 HY4 HY3 HB3
    obtain ⟨I, s, hIN, hI60, rfl, rfl, hS, hCF⟩ := hrel
    have HS := Lib.hid hS
    have HCF := Lib.hid hCF
    obtain ⟨lo1, _, hl1⟩ := hS.log
    have HL1 := Lib.hid hl1
    clear hS hCF hl1
    by_cases h1 : I < N
    · by_cases h2 : I < 60
      · obtain ⟨bs, off, k, at_, n, rfl, hli, ⟨hk, ht, hn⟩, hc⟩ := HX.out.at_ h1
        have HC := Lib.hid hc
        have hst : s.tail ≤ 24 := by
          have := HS.out.inv.st1
          rw [HCF.out] at this
          omega
        have hlow := HS.out.inv.low
        obtain ⟨cl, hcl⟩ : ∃ cl, s.closed = cl := ⟨_, rfl⟩
        have HT : Hid (Calls Try.prog 25 #[.pointer (some ⟨L, 0, none⟩)] wr fun e w' => e = .returned (.tuple #[.int .i64 s.tail, .bool cl]) ∧ ∃ j, w' = wr.drewN j) := Lib.hid (by rw [← hcl]; exact logTail HL1.out)
        have HCL := Lib.hid hcl
        obtain ⟨kk, hkk⟩ : ∃ kk, k % 10 = kk := ⟨_, rfl⟩
        have hkb : 0 ≤ kk ∧ kk ≤ 9 := by omega
        have HKK := Lib.hid hkk
        clear hli hk ht hn hc hcl hkk
        go_wp2_with fail
        refine HT.out.mono ?_
        rintro e w7 ⟨rfl, j7, rfl⟩
        have hb7 := bl_drewN (Below.refl _ wr) j7
        have H7 := Lib.hid (HS.out.below hb7)
        have HL7 := Lib.hid (HL1.out.below hb7)
        clear hb7 HS HL1 HT
        generalize wr.drewN j7 = w7 at *
        go_wp2_with fail
        refine (logLow HL7.out).mono ?_
        rintro e w7 ⟨rfl, rfl⟩
        have hb77 := Below.refl w7.heap.size w7
        go_wp2_with fail
        obtain ⟨wo, hwo⟩ : ∃ wo, wo = w7 := ⟨_, rfl⟩
        subst hwo
        go_loopw [14, 15] (fun sn a wr => ∃ K : Nat, K ≤ c.sh ∧ a = .int .i64 K ∧ sn = .bool (seenTo s K) ∧ Below wo.heap.size wo wr) (fun _ a _ => c.sh - (intOf a).toNat)
        case atStart => exact ⟨0, Nat.zero_le _, rfl, rfl, hb77⟩
        case round =>
          clear hb77
          obtain ⟨K, hK, rfl, rfl, hbK⟩ := hrel
          obtain ⟨y0, y1, y2, y3, y4, y5, y6⟩ := cfg_of (HBOX.out wr s (H7.out.below hbK))
          have HBK := Lib.hid hbK
          by_cases hKs : K < c.sh
          · have HCU := Lib.hid (logCursor (HL7.out.below hbK) K (s.cursor K) rfl)
            have HSU := Lib.hid (seenTo_succ s K)
            clear hbK
            generalize s.cursor K = cu at *
            cases hsn : seenTo s K
            · have HSU2 : Hid (seenTo s (K + 1) = false) := Lib.hid (by rw [HSU.out, hsn]; rfl)
              clear hsn
              go_wp2_with fail
              refine HCU.out.mono ?_
              rintro e w11 ⟨rfl, rfl⟩
              go_wp2_with fail
              go_roundw
              case rel => exact ⟨K + 1, hKs, by simp, by rw [HSU2.out], HBK.out⟩
              case measure => simp [intOf]; omega
            · by_cases g1 : cu < 0
              · have HSU2 : Hid (seenTo s (K + 1) = true) := Lib.hid (by rw [HSU.out, hsn, decide_eq_true g1]; rfl)
                clear hsn
                go_wp2_with fail
                refine HCU.out.mono ?_
                rintro e w11 ⟨rfl, rfl⟩
                go_wp2_with fail
                go_roundw
                case rel => exact ⟨K + 1, hKs, by simp, by rw [HSU2.out], HBK.out⟩
                case measure => simp [intOf]; omega
              · by_cases g2 : (s.low : Int) < cu
                · have HSU2 : Hid (seenTo s (K + 1) = true) := Lib.hid (by rw [HSU.out, hsn, decide_eq_true g2, Bool.or_true]; rfl)
                  clear hsn
                  go_wp2_with fail
                  refine HCU.out.mono ?_
                  rintro e w11 ⟨rfl, rfl⟩
                  go_wp2_with fail
                  go_roundw
                  case rel => exact ⟨K + 1, hKs, by simp, by rw [HSU2.out], HBK.out⟩
                  case measure => simp [intOf]; omega
                · have HSU2 : Hid (seenTo s (K + 1) = false) := Lib.hid (by rw [HSU.out, hsn, decide_eq_false g1, decide_eq_false g2]; rfl)
                  clear hsn
                  go_wp2_with fail
                  refine HCU.out.mono ?_
                  rintro e w11 ⟨rfl, rfl⟩
                  go_wp2_with fail
                  go_roundw
                  case rel => exact ⟨K + 1, hKs, by simp, by rw [HSU2.out, decide_eq_false (show ¬ cu < 0 by omega), decide_eq_false (show ¬ (s.low : Int) < cu by omega)]; rfl, HBK.out⟩
                  case measure => simp [intOf]; omega
          · obtain rfl : K = c.sh := by omega
            clear hKs
            have hseen : s.collect.isSome = true → seenTo s c.sh = true := fun h => by
              rw [← HCF.out]
              exact seen_all H7.out.inv h
            have HSE := Lib.hid hseen
            have H8 := Lib.hid (H7.out.below hbK)
            obtain ⟨lk, hlk⟩ : ∃ lk, entry CmdV.zero (s.look s.low) = lk := ⟨_, rfl⟩
            have HLK := Lib.hid (logLook (HL7.out.below hbK) s.low (by omega) lk hlk)
            have hli : s.collect.isSome = true → lk.2 = true := fun h => by
              have := (collect_seen H7.out.inv h).2
              rw [← hlk]
              cases hl : s.look s.low with
              | none => rw [hl] at this; cases this
              | some c => rfl
            have HLI := Lib.hid hli
            obtain ⟨⟨kd, nn⟩, lies⟩ := lk
            have HLK2 : Hid (Calls Try.prog 26 #[.pointer (some ⟨L, 0, none⟩), .int .i64 s.low] wr fun e w' => e = .returned (.tuple #[.agg #[.int .i64 kd, .int .i64 0, .int .i64 nn, .int .i64 0, .int .i64 0, .int .i64 0, .int .i64 0, .int .i64 0, .int .i64 0, .int .i64 0, .int .i64 0, .slice none 0 0, .int .i64 0, .bool false], .bool lies]) ∧ Below wr.heap.size wr w') := Lib.hid HLK.out
            clear hlk hli hbK HLK hseen
            generalize seenTo s c.sh = sn at *
            go_wp2_with fail
            refine HLK2.out.mono ?_
            rintro e w9 ⟨rfl, hb9⟩
            have hb10 : Below wr.heap.size wr (w9.alloc (.cells #[.int .i64 kd, .int .i64 0, .int .i64 nn, .int .i64 0, .int .i64 0, .int .i64 0, .int .i64 0, .int .i64 0, .int .i64 0, .int .i64 0, .int .i64 0, .slice none 0 0, .int .i64 0, .bool false] 39)) := bl_alloc hb9 _
            have H10 := Lib.hid (H8.out.below hb10)
            clear hb9 hb10 y0 y1 y2 y3 y4 y5 y6
            obtain ⟨e0, e1, e2⟩ := HC.out _ H10.out.bel.bel
            go_wp2_with fail
            refine (does_any H10.out k at_ n (by omega)).mono ?_
            rintro e w11 ⟨rfl, x, h11⟩
            have hcf6 : (stepTo s k at_ n x).cfg = c := (steps_any s k at_ n x).cfg.trans HCF.out
            have hst6 := steps_any s k at_ n x
            generalize stepTo s k at_ n x = s6 at *
            have hT6 := hst6.tail
            have hL6 := hst6.low
            have hC6 := hst6.closed
            have H11 := Lib.hid h11
            have HC6 := Lib.hid hcf6
            obtain ⟨lo6, _, hl6⟩ := h11.log
            have HL6 := Lib.hid hl6
            have ha3 := h11.inv.low
            obtain ⟨nw, hnw⟩ : ∃ nw, s6.closed = nw := ⟨_, rfl⟩
            have HT2 : Hid (Calls Try.prog 25 #[.pointer (some ⟨L, 0, none⟩)] w11 fun e w' => e = .returned (.tuple #[.int .i64 s6.tail, .bool nw]) ∧ ∃ j, w' = w11.drewN j) := Lib.hid (by rw [← hnw]; exact logTail HL6.out)
            rw [HCL.out, hnw] at hC6
            rw [HKK.out] at hT6 hL6
            have HT6 := Lib.hid hT6
            have HL6' := Lib.hid hL6
            have HC6' := Lib.hid hC6
            clear h11 hcf6 hst6 hl6 hT6 hL6 hC6 hnw e0 e1 e2 H7 HL7 H8 H10
            go_wp2_with fail
            refine HT2.out.mono ?_
            rintro e w12 ⟨rfl, j12, rfl⟩
            have hb12 := bl_drewN (Below.refl _ w11) j12
            have H12 := Lib.hid (H11.out.below hb12)
            have HL12 := Lib.hid (HL6.out.below hb12)
            clear hb12 H11 HL6 HT2
            generalize w11.drewN j12 = w12 at *
            obtain ⟨e0, e1, e2⟩ := HC.out _ H12.out.bel.bel
            go_wp2_with fail
            refine (rest_any _ 10 _ (by decide) (by decide)).mono ?_
            rintro e w' ⟨rfl, rfl⟩
            simp only [HKK.out]
            rcases HT6.out with hA | ⟨hB, hk1, htl⟩
            · have TT : Hid (s6.tail = s.tail) := Lib.hid hA
              have t1 : s6.tail ≤ s.tail := by omega
              have t2 : s.tail ≤ s6.tail := by omega
              clear hA
              rcases HL6'.out with hL | ⟨hL, hk7, hcol⟩
              · cases cl
                · have l1 : s6.low ≤ s.low := by omega
                  have l2 : s.low ≤ s6.low := by omega
                  clear hL
                  go_wp2_with fail
                  refine (logLow HL12.out).mono ?_
                  rintro e w13 ⟨rfl, rfl⟩
                  go_wp2_with fail
                  refine (logLow HL12.out).mono ?_
                  rintro e w13 ⟨rfl, rfl⟩
                  go_wp2_with fail
                  refine (logLow HL12.out).mono ?_
                  rintro e w13 ⟨rfl, rfl⟩
                  go_wp2_with fail
                  refine (logLow HL12.out).mono ?_
                  rintro e w13 ⟨rfl, rfl⟩
                  go_wp2_with fail
                  go_roundw
                  case rel => exact ⟨I + 1, s6, h1, h2, by simp, congrArg (Value.int .i64) (by have := TT.out; omega), H12.out, HC6.out⟩
                  case measure => simp [intOf]; omega
                · obtain rfl : nw = true := HC6'.out rfl
                  have l1 : s6.low ≤ s.low := by omega
                  have l2 : s.low ≤ s6.low := by omega
                  clear hL
                  go_wp2_with fail
                  refine (logLow HL12.out).mono ?_
                  rintro e w13 ⟨rfl, rfl⟩
                  go_wp2_with fail
                  refine (logLow HL12.out).mono ?_
                  rintro e w13 ⟨rfl, rfl⟩
                  go_wp2_with fail
                  refine (logLow HL12.out).mono ?_
                  rintro e w13 ⟨rfl, rfl⟩
                  go_wp2_with fail
                  refine (logLow HL12.out).mono ?_
                  rintro e w13 ⟨rfl, rfl⟩
                  go_wp2_with fail
                  go_roundw
                  case rel => exact ⟨I + 1, s6, h1, h2, by simp, congrArg (Value.int .i64) (by have := TT.out; omega), H12.out, HC6.out⟩
                  case measure => simp [intOf]; omega
              · cases cl
                · have l1 : s.low < s6.low := by omega
                  have l2 : s6.low ≤ s.low + 1 := by omega
                  obtain rfl : sn = true := HSE.out hcol
                  obtain rfl : lies = true := HLI.out hcol
                  clear hL hcol
                  rcases hk7 with rfl | rfl
                  · go_wp2_with fail
                    refine (logLow HL12.out).mono ?_
                    rintro e w13 ⟨rfl, rfl⟩
                    go_wp2_with fail
                    refine (logLow HL12.out).mono ?_
                    rintro e w13 ⟨rfl, rfl⟩
                    go_wp2_with fail
                    refine (logLow HL12.out).mono ?_
                    rintro e w13 ⟨rfl, rfl⟩
                    go_wp2_with fail
                    refine (logLow HL12.out).mono ?_
                    rintro e w13 ⟨rfl, rfl⟩
                    go_wp2_with fail
                    go_roundw
                    case rel => exact ⟨I + 1, s6, h1, h2, by simp, congrArg (Value.int .i64) (by have := TT.out; omega), H12.out, HC6.out⟩
                    case measure => simp [intOf]; omega
                  · go_wp2_with fail
                    refine (logLow HL12.out).mono ?_
                    rintro e w13 ⟨rfl, rfl⟩
                    go_wp2_with fail
                    refine (logLow HL12.out).mono ?_
                    rintro e w13 ⟨rfl, rfl⟩
                    go_wp2_with fail
                    refine (logLow HL12.out).mono ?_
                    rintro e w13 ⟨rfl, rfl⟩
                    go_wp2_with fail
                    refine (logLow HL12.out).mono ?_
                    rintro e w13 ⟨rfl, rfl⟩
                    go_wp2_with fail
                    go_roundw
                    case rel => exact ⟨I + 1, s6, h1, h2, by simp, congrArg (Value.int .i64) (by have := TT.out; omega), H12.out, HC6.out⟩
                    case measure => simp [intOf]; omega
                · obtain rfl : nw = true := HC6'.out rfl
                  have l1 : s.low < s6.low := by omega
                  have l2 : s6.low ≤ s.low + 1 := by omega
                  obtain rfl : sn = true := HSE.out hcol
                  obtain rfl : lies = true := HLI.out hcol
                  clear hL hcol
                  rcases hk7 with rfl | rfl
                  · go_wp2_with fail
                    refine (logLow HL12.out).mono ?_
                    rintro e w13 ⟨rfl, rfl⟩
                    go_wp2_with fail
                    refine (logLow HL12.out).mono ?_
                    rintro e w13 ⟨rfl, rfl⟩
                    go_wp2_with fail
                    refine (logLow HL12.out).mono ?_
                    rintro e w13 ⟨rfl, rfl⟩
                    go_wp2_with fail
                    refine (logLow HL12.out).mono ?_
                    rintro e w13 ⟨rfl, rfl⟩
                    go_wp2_with fail
                    go_roundw
                    case rel => exact ⟨I + 1, s6, h1, h2, by simp, congrArg (Value.int .i64) (by have := TT.out; omega), H12.out, HC6.out⟩
                    case measure => simp [intOf]; omega
                  · go_wp2_with fail
                    refine (logLow HL12.out).mono ?_
                    rintro e w13 ⟨rfl, rfl⟩
                    go_wp2_with fail
                    refine (logLow HL12.out).mono ?_
                    rintro e w13 ⟨rfl, rfl⟩
                    go_wp2_with fail
                    refine (logLow HL12.out).mono ?_
                    rintro e w13 ⟨rfl, rfl⟩
                    go_wp2_with fail
                    refine (logLow HL12.out).mono ?_
                    rintro e w13 ⟨rfl, rfl⟩
                    go_wp2_with fail
                    go_roundw
                    case rel => exact ⟨I + 1, s6, h1, h2, by simp, congrArg (Value.int .i64) (by have := TT.out; omega), H12.out, HC6.out⟩
                    case measure => simp [intOf]; omega
            · have TT : Hid (s6.tail = s.tail + 1) := Lib.hid hB
              have t1 : s.tail < s6.tail := by omega
              have t2 : s6.tail ≤ s.tail + 1 := by omega
              have HTL := Lib.hid htl
              clear hB htl
              rcases HL6'.out with hL | ⟨hL, hk7, hcol⟩
              · go_wp2_with fail
                refine (tail_any k at_ n s.tail (by omega) _ (s.tail : Int) HTL.out).mono ?_
                rintro e w14 ⟨rfl, hb14⟩
                have H14 := Lib.hid (H12.out.below hb14)
                have HL14 := Lib.hid (HL12.out.below hb14)
                clear hb14 H12 HL12 e0 e1 e2
                cases cl
                · have l1 : s6.low ≤ s.low := by omega
                  have l2 : s.low ≤ s6.low := by omega
                  clear hL
                  go_wp2_with fail
                  refine (logLow HL14.out).mono ?_
                  rintro e w13 ⟨rfl, rfl⟩
                  go_wp2_with fail
                  refine (logLow HL14.out).mono ?_
                  rintro e w13 ⟨rfl, rfl⟩
                  go_wp2_with fail
                  refine (logLow HL14.out).mono ?_
                  rintro e w13 ⟨rfl, rfl⟩
                  go_wp2_with fail
                  refine (logLow HL14.out).mono ?_
                  rintro e w13 ⟨rfl, rfl⟩
                  go_wp2_with fail
                  go_roundw
                  case rel => exact ⟨I + 1, s6, h1, h2, by simp, congrArg (Value.int .i64) (by have := TT.out; omega), H14.out, HC6.out⟩
                  case measure => simp [intOf]; omega
                · obtain rfl : nw = true := HC6'.out rfl
                  have l1 : s6.low ≤ s.low := by omega
                  have l2 : s.low ≤ s6.low := by omega
                  clear hL
                  go_wp2_with fail
                  refine (logLow HL14.out).mono ?_
                  rintro e w13 ⟨rfl, rfl⟩
                  go_wp2_with fail
                  refine (logLow HL14.out).mono ?_
                  rintro e w13 ⟨rfl, rfl⟩
                  go_wp2_with fail
                  refine (logLow HL14.out).mono ?_
                  rintro e w13 ⟨rfl, rfl⟩
                  go_wp2_with fail
                  refine (logLow HL14.out).mono ?_
                  rintro e w13 ⟨rfl, rfl⟩
                  go_wp2_with fail
                  go_roundw
                  case rel => exact ⟨I + 1, s6, h1, h2, by simp, congrArg (Value.int .i64) (by have := TT.out; omega), H14.out, HC6.out⟩
                  case measure => simp [intOf]; omega
              · omega
      · go_wp2_with fail
        refine (logTail HL1.out).mono ?_
        rintro e w7 ⟨rfl, j7, rfl⟩
        have HF := Lib.hid (HS.out.bel.bel.trans ((bl_drewN (Below.refl _ wr) j7).mono HS.out.bel.bel.size))
        go_wp2_with fail
        go_ret
        exact ⟨rfl, HF.out⟩
    · go_wp2_with fail
      refine (logTail HL1.out).mono ?_
      rintro e w7 ⟨rfl, j7, rfl⟩
      have HF := Lib.hid (HS.out.bel.bel.trans ((bl_drewN (Below.refl _ wr) j7).mono HS.out.bel.bel.size))
      go_wp2_with fail
      go_ret
      exact ⟨rfl, HF.out⟩
end Go.Proofs.Ytibbnikfecilhaa
