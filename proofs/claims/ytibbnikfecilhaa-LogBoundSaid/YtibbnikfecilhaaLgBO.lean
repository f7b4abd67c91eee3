/- Chapter 19: LogBound. (Printed by lggen.py.) -/
import Derived.Test.YtibbnikfecilhaaLgDH
namespace Go.Proofs.Ytibbnikfecilhaa
open Go.RowKit
set_option linter.unusedVariables false
set_option linter.unusedSimpArgs false

theorem cfg_of {w' : World} {Y : Nat} {c : CfgV} (h : w'.heap[Y]? = some (.cells c.cells.toArray 27 (0, 0))) : w'.cell? ⟨Y, 0, none⟩ = some (.int .i64 c.sh) ∧ w'.cell? ⟨Y, 1, none⟩ = some (.int .i64 c.inb) ∧ w'.cell? ⟨Y, 2, none⟩ = some (.int .i64 c.sl) ∧ w'.cell? ⟨Y, 3, none⟩ = some (.int .i64 c.qu) ∧ w'.cell? ⟨Y, 4, none⟩ = some (.int .i64 c.ru) ∧ w'.cell? ⟨Y, 5, none⟩ = some (.int .i64 c.ou) ∧ w'.cell? ⟨Y, 6, none⟩ = some (.int .i64 c.st) := ⟨cell_of_blk h 0, cell_of_blk h 1, cell_of_blk h 2, cell_of_blk h 3, cell_of_blk h 4, cell_of_blk h 5, cell_of_blk h 6⟩
set_option maxHeartbeats 8000000 in
set_option maxRecDepth 100000 in
theorem bound_law (q0 q1 q2 : Int) (A : Option Addr) (N cap : Nat) (l : List (Int × Int × Int)) (w : World) (hq0 : -9223372036854775808 ≤ q0 ∧ q0 ≤ 9223372036854775807) (hq1 : -9223372036854775808 ≤ q1 ∧ q1 ≤ 9223372036854775807) (hq2 : -9223372036854775808 ≤ q2 ∧ q2 ≤ 9223372036854775807) (hrow : RowAt (kPair (kInt .i64) (kPair (kInt .i64) (kInt .i64))) 24 w A N l) :
    Calls Try.prog 6 #[.agg #[.int .i64 q0, .int .i64 q1, .int .i64 q2], .slice A N cap] w fun e w' => e = .returned (.bool true) ∧ Below w.heap.size w w' := by
  have hx := hrow.acts
  have hlen := hx.small
  have HX := Lib.hid hx
  obtain ⟨c, hcv⟩ : ∃ c, cfgOf q0 q1 q2 = c := ⟨_, rfl⟩
  have hcr : c.asI.rightB = true := by rw [← hcv]; exact cfgOf_right q0 q1 q2
  have hcs : c.st ≤ 24 ∧ c.sh ≤ 3 ∧ c.inb ≤ 5 := by
    rw [← hcv]
    obtain ⟨e1, e2, e3⟩ := cfgOf_sh q0 q1 q2
    omega
  have HCF : Hid (∀ W, Calls Try.prog 23 #[.agg #[.int .i64 q0, .int .i64 q1, .int .i64 q2]] W fun e w' => e = .returned (.agg c.cells.toArray) ∧ Below W.heap.size W w') := Lib.hid fun W => by
    refine (config_any q0 q1 q2 W).mono ?_
    rintro e w' ⟨rfl, hb⟩
    subst hcv
    exact ⟨rfl, hb⟩
  have HCR := Lib.hid hcr
  have HCS := Lib.hid hcs
  have hz := alloc_new w (.cells #[.int .i64 q0, .int .i64 q1, .int .i64 q2] 64)
  have hb0 := bl_alloc (Below.refl _ w) (.cells #[.int .i64 q0, .int .i64 q1, .int .i64 q2] 64)
  have HZ := Lib.hid hz
  have HB0 := Lib.hid hb0
  clear hrow hx hcv hcr hcs hq0 hq1 hq2 hz hb0
  go_enter Try.func6, Try.ntmps6
  go_wp2_with fail
  refine (awake19 _).mono ?_
  rintro e w1 ⟨rfl, hb1⟩
  have HB1 := Lib.hid (bl_then HB0.out hb1)
  obtain ⟨x0, x1, x2⟩ := three_of ((hb1.block _ (block_lt HZ.out)).trans HZ.out)
  clear hb1
  go_wp2_with fail
  refine (HCF.out _).mono ?_
  rintro e w2 ⟨rfl, hb2⟩
  have HB2 := Lib.hid (bl_then HB1.out hb2)
  clear hb2 x0 x1 x2
  have hy3 : (w2.alloc (.cells #[.int .i64 c.sh, .int .i64 c.inb, .int .i64 c.sl, .int .i64 c.qu, .int .i64 c.ru, .int .i64 c.ou, .int .i64 c.st] 27)).heap[w2.heap.size]? = some (.cells c.cells.toArray 27 (0, 0)) := alloc_new _ _
  have hb3 : Below w.heap.size w (w2.alloc (.cells #[.int .i64 c.sh, .int .i64 c.inb, .int .i64 c.sl, .int .i64 c.qu, .int .i64 c.ru, .int .i64 c.ou, .int .i64 c.st] 27)) := bl_alloc HB2.out _
  obtain ⟨y0, y1, y2, y3, y4, y5, y6⟩ := cfg_of hy3
  have HY3 := Lib.hid hy3
  have HB3 := Lib.hid hb3
  clear hy3 hb3
  simp only [CfgV.cells]
  go_wp2_with fail
  generalize w2.heap.size = Y at *
  generalize w2.alloc (.cells #[.int .i64 c.sh, .int .i64 c.inb, .int .i64 c.sl, .int .i64 c.qu, .int .i64 c.ru, .int .i64 c.ou, .int .i64 c.st] 27) = w3 at *
  refine (newLog c HCR.out).mono ?_
  rintro e w4 ⟨L, b, rfl, h4, hb4⟩
  have HY4 := Lib.hid ((hb4.block _ (block_lt HY3.out)).trans HY3.out)
  have HB4 := Lib.hid (bl_then HB3.out hb4)
  have HL4 := Lib.hid h4
  clear h4 hb4 y0 y1 y2 y3 y4 y5 y6
  obtain ⟨y0, y1, y2, y3, y4, y5, y6⟩ := cfg_of HY4.out
  go_wp2_with fail
  refine (refNew c HCR.out).mono ?_
  rintro e w5 ⟨D, d, rfl, h5, hb5⟩
  have hy5 := (hb5.block _ (block_lt HY4.out)).trans HY4.out
  have hside : Both w w5 w5 L D b (LogS.init c) := ⟨⟨_, HB3.out.size, HL4.out.below hb5⟩, ⟨_, d, HB4.out.size, h5 b.C⟩, ⟨bl_then HB4.out hb5, fun k cs fr hk => hk⟩⟩
  have HY5 := Lib.hid hy5
  have HSD := Lib.hid hside
  clear h5 hb5 hside y0 y1 y2 y3 y4 y5 y6 hy5
  go_wp2_with fail
  obtain ⟨wB, hwB⟩ : ∃ wB, wB = w5 := ⟨_, rfl⟩
  subst hwB
  have HBOX : Hid (∀ wr s, Both w wB wr L D b s → wr.heap[Y]? = some (.cells c.cells.toArray 27 (0, 0))) := Lib.hid fun wr s h => h.bel.box Y _ _ HY5.out
  have hcs1 := HCS.out.1
  have hcs2 := HCS.out.2.1
  have hcs3 := HCS.out.2.2
  go_loopw [9] (fun i wr => ∃ (I : Nat) (s : LogS), I ≤ N ∧ I ≤ 60 ∧ i = .int .i64 I ∧ Both w wB wr L D b s ∧ s.cfg = c) (fun i _ => N - (intOf i).toNat)
  case atStart => exact ⟨0, _, Nat.zero_le _, Nat.zero_le _, rfl, HSD.out, rfl⟩
  case round =>
    clear HSD HL4 HB4 HY4 HY3 HB3
    obtain ⟨I, s, hIN, hI60, rfl, hS, hCF⟩ := hrel
    have HS := Lib.hid hS
    have HCF := Lib.hid hCF
    clear hS hCF
    by_cases h1 : I < N
    · by_cases h2 : I < 60
      · obtain ⟨bs, off, k, at_, n, rfl, hli, ⟨hk, ht, hn⟩, hc⟩ := HX.out.at_ h1
        obtain ⟨e0, e1, e2⟩ := hc wr HS.out.bel.bel
        have hst : s.tail ≤ 24 := by
          have := HS.out.inv.st1
          rw [HCF.out] at this
          omega
        clear hli hk ht hn hc
        go_wp2_with fail
        refine (does_any HS.out k at_ n (by omega)).mono ?_
        rintro e w6 ⟨rfl, x, h6⟩
        have hcf6 : (stepTo s k at_ n x).cfg = c := (steps_any s k at_ n x).cfg.trans HCF.out
        generalize stepTo s k at_ n x = s6 at *
        have H6 := Lib.hid h6
        have HC6 := Lib.hid hcf6
        obtain ⟨lo6, _, hl6⟩ := h6.log
        have HL6 := Lib.hid hl6
        have hI6 := h6.inv
        have ha1 : (s6.tail : Int) ≤ c.st := by have := hI6.st1; rwa [hcf6] at this
        have ha2 : s6.tail ≤ s6.low + c.inb := by have := hI6.room; rwa [hcf6] at this
        have ha3 := hI6.low
        have HI6 := Lib.hid hI6
        clear h6 hcf6 hl6 hI6 e0 e1 e2 HS HCF
        go_wp2_with fail
        refine (logTail HL6.out).mono ?_
        rintro e w7 ⟨rfl, j7, rfl⟩
        have hb7 := bl_drewN (Below.refl _ w6) j7
        have H7 := Lib.hid (H6.out.below hb7)
        have HL7 := Lib.hid (HL6.out.below hb7)
        clear hb7
        generalize w6.drewN j7 = w7 at *
        obtain ⟨y0, y1, y2, y3, y4, y5, y6⟩ := cfg_of (HBOX.out w7 s6 H7.out)
        have d1 : decide ((s6.tail : Int) - s6.low > (c.inb : Nat)) = false := decide_eq_false (by omega)
        have d1' : decide (((c.inb : Nat) : Int) < (s6.tail : Int) - s6.low) = false := decide_eq_false (by omega)
        have d2 : decide ((s6.tail : Int) > c.st) = false := decide_eq_false (by omega)
        have d2' : decide (c.st < (s6.tail : Int)) = false := decide_eq_false (by omega)
        have HLOW := Lib.hid (fun W (hW : Below w7.heap.size w7 W) => logLow (HL7.out.below hW))
        go_wp2_with fail
        have HBD : Hid (∀ j, Below w7.heap.size w7 (w7.drewN j)) := Lib.hid fun j => bl_drewN (Below.refl _ _) j
        go_quiet ((go_at_call 21; exact Calls.quiet_of_same (HLOW.out _ (bl_drewN (Below.refl _ _) _))))
        have H8 := Lib.hid (H7.out.below (HBD.out nq))
        have HL8 := Lib.hid (HL7.out.below (HBD.out nq))
        clear y0 y1 y2 y3 y4 y5 y6 HBD HLOW H7 HL7 d1 d1' d2 d2'
        generalize w7.drewN nq = w8 at *
        go_wp2_with fail
        have hb88 := Below.refl w8.heap.size w8
        obtain ⟨wo, hwo⟩ : ∃ wo, wo = w8 := ⟨_, rfl⟩
        subst hwo
        go_loopw [12] (fun a wr => ∃ K : Nat, K ≤ 30 ∧ a = .int .i64 K ∧ Below wo.heap.size wo wr) (fun a _ => 30 - (intOf a).toNat)
        case atStart => exact ⟨0, Nat.zero_le _, rfl, hb88⟩
        case round =>
          clear hb88
          obtain ⟨K, hK, rfl, hbK⟩ := hrel
          by_cases hK30 : K < 30
          · obtain ⟨lk, hlk⟩ : ∃ lk, entry CmdV.zero (s6.look K) = lk := ⟨_, rfl⟩
            have HLK := Lib.hid (logLook (HL8.out.below hbK) K (by omega) lk hlk)
            have hli : lk.2 = true → s6.low ≤ K ∧ K < s6.tail := fun h => look_in HI6.out (by rw [← hlk] at h; cases hl : s6.look K with | none => rw [hl] at h; cases h | some c => rfl)
            have HLI := Lib.hid hli
            have HBK := Lib.hid hbK
            obtain ⟨⟨kd, nn⟩, lies⟩ := lk
            have HLK2 : Hid (Calls Try.prog 26 #[.pointer (some ⟨L, 0, none⟩), .int .i64 K] wr fun e w' => e = .returned (.tuple #[.agg #[.int .i64 kd, .int .i64 0, .int .i64 nn, .int .i64 0, .int .i64 0, .int .i64 0, .int .i64 0, .int .i64 0, .int .i64 0, .int .i64 0, .int .i64 0, .slice none 0 0, .int .i64 0, .bool false], .bool lies]) ∧ Below wr.heap.size wr w') := Lib.hid HLK.out
            clear hlk hli hbK HLK
            go_wp2_with fail
            refine HLK2.out.mono ?_
            rintro e w9 ⟨rfl, hb9⟩
            have hb10 : Below wo.heap.size wo (w9.alloc (.cells #[.int .i64 kd, .int .i64 0, .int .i64 nn, .int .i64 0, .int .i64 0, .int .i64 0, .int .i64 0, .int .i64 0, .int .i64 0, .int .i64 0, .int .i64 0, .slice none 0 0, .int .i64 0, .bool false] 39)) := bl_alloc (bl_then HBK.out hb9) _
            have HB10 := Lib.hid hb10
            have HLOW := Lib.hid (logLow (HL8.out.below hb10))
            clear hb9 hb10
            cases lies
            · go_wp2_with fail
              go_roundw
              case rel => exact ⟨K + 1, hK30, by simp, HB10.out⟩
              case measure => simp [intOf]; omega
            · obtain ⟨g1, g2⟩ := HLI.out rfl
              go_wp2_with fail
              refine HLOW.out.mono ?_
              rintro e w11 ⟨rfl, rfl⟩
              go_wp2_with fail
              go_roundw
              case rel => exact ⟨K + 1, hK30, by simp, HB10.out⟩
              case measure => simp [intOf]; omega
          · have hb3 : Below wo.heap.size wo wr := hbK
            have HB3 := Lib.hid hb3
            clear hbK hb3
            go_wp2_with fail
            obtain ⟨wp, hwp⟩ : ∃ wp, wp = wr := ⟨_, rfl⟩
            subst hwp
            obtain ⟨V, hV⟩ : ∃ V : Value, V = .int .i64 (K : Int) := ⟨_, rfl⟩
            rw [← hV]
            clear hV hK30 hK
            go_loopw [15] (fun a wr => ∃ K : Nat, K ≤ c.sh ∧ a = .int .i64 K ∧ Below wo.heap.size wo wr) (fun a _ => c.sh - (intOf a).toNat)
            case atStart => exact ⟨0, Nat.zero_le _, rfl, HB3.out⟩
            case round =>
              clear HB3
              obtain ⟨K, hK, rfl, hbK⟩ := hrel
              obtain ⟨y0, y1, y2, y3, y4, y5, y6⟩ := cfg_of (HBOX.out wr s6 (H8.out.below hbK))
              have HBK := Lib.hid hbK
              by_cases hKs : K < c.sh
              · have HCU := Lib.hid (logCursor (HL8.out.below hbK) K (s6.cursor K) rfl)
                have hcu := cursor_le HI6.out K
                clear hbK
                generalize s6.cursor K = cu at *
                go_wp2_with fail
                refine HCU.out.mono ?_
                rintro e w11 ⟨rfl, rfl⟩
                go_wp2_with fail
                go_roundw
                case rel => exact ⟨K + 1, hKs, by simp, HBK.out⟩
                case measure => simp [intOf]; omega
              · obtain rfl : K = c.sh := by omega
                clear hKs hbK
                go_wp2_with fail
                go_roundw
                case rel => exact ⟨I + 1, s6, h1, h2, by simp, H8.out.below HBK.out, HC6.out⟩
                case measure => simp [intOf]; omega
      · obtain rfl : I = 60 := by omega
        clear h2
        go_wp2_with fail
        go_ret
        exact ⟨rfl, HS.out.bel.bel⟩
    · obtain rfl : I = N := by omega
      clear h1
      go_wp2_with fail
      go_ret
      exact ⟨rfl, HS.out.bel.bel⟩
end Go.Proofs.Ytibbnikfecilhaa
