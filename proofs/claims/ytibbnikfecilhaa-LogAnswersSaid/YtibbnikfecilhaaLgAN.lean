/- Chapter 19: LogAnswers. -/
import Derived.Test.YtibbnikfecilhaaLgH
namespace Go.Proofs.Ytibbnikfecilhaa
open Go.RowKit
set_option linter.unusedVariables false
set_option linter.unusedSimpArgs false

set_option maxHeartbeats 8000000 in
set_option maxRecDepth 100000 in
theorem answers_law (a : Option Addr) (len cap : Nat) (zs : List Int) (first : Int) (w : World) (hr : RowAt (kInt .i64) 8 w a len zs) (hf : -9223372036854775808 ≤ first ∧ first ≤ 9223372036854775807) :
    Calls Try.prog 4 #[.slice a len cap, .int .i64 first] w fun e w' => e = .returned (.bool true) ∧ Below w.heap.size w w' := by
  have HZ0 := Lib.hid hr.ints
  clear hr
  go_enter Try.func4, Try.ntmps4
  go_wp2_with fail
  refine (awake19 _).mono ?_
  rintro e w1 ⟨rfl, hb1⟩
  have HB1 := Lib.hid hb1
  clear hb1
  go_wp2_with fail
  refine (newLog c99 (by decide)).mono ?_
  rintro e w2 ⟨L, b, rfl, h2, hb2⟩
  have HL2 := Lib.hid h2
  have HB2 := Lib.hid (bl_then HB1.out hb2)
  clear h2 hb2
  go_upto_region 3 with fail
  go_cut [7] (fun v wx => ∃ N : Nat, v = .int .i64 N ∧ N ≤ 20 ∧ N ≤ len ∧ wx = w2)
  case first =>
    go_wp2_with fail
    all_goals go_meet
    case rel => exact ⟨20, rfl, Nat.le_refl _, by omega, rfl⟩
    case rel => exact ⟨len, rfl, by omega, Nat.le_refl _, rfl⟩
  case rest =>
    obtain ⟨N, rfl, hN, hNl, rfl⟩ := hcut
    obtain ⟨lo, hlo⟩ : ∃ lo, lo = w1.heap.size := ⟨_, rfl⟩
    have HLO : Hid (w.heap.size ≤ lo) := Lib.hid (by rw [hlo]; exact HB1.out.size)
    rw [← hlo] at HL2
    clear hlo
    go_wp2_with fail
    go_loopw [8] (fun i wr => ∃ (I : Nat) (s : LogS), I ≤ N ∧ i = .int .i64 I ∧ LogAt wr lo L b s ∧ AnsI zs s I ∧ Below w.heap.size w wr) (fun i _ => N - (intOf i).toNat)
    case atStart => exact ⟨0, _, Nat.zero_le _, rfl, HL2.out, AnsI.init zs, HB2.out⟩
    case round =>
      obtain ⟨I, s, hI, rfl, hAt, hInv, hBel⟩ := hrel
      have HAT := Lib.hid hAt
      have HIN := Lib.hid hInv
      have HBL := Lib.hid hBel
      clear hAt hInv hBel
      by_cases hIN : I < N
      · have hI20 : I < 20 := by omega
        obtain ⟨gb, off, rfl, hc⟩ := HZ0.out.at_ (i := I) (by omega)
        have HC := Lib.hid hc
        have HRD := Lib.hid (ans_round HAT.out.inv HIN.out hI20)
        have hkd : 1 + zs.getD I 0 % 4 = kdOf zs I := rfl
        have HKD := Lib.hid hkd
        have hw1 : IntKind.i64.wrap (1 + zs.getD I 0 % 4) = kdOf zs I := by
          have := kdOf_in zs I
          rw [hkd]
          exact IntWalk.i64_in _ (by omega)
        have hlen : I < len := by omega
        clear hc hkd
        go_wp2_with fail
        refine (logTake_to HAT.out I false true HRD.out.1 _ rfl (by omega)).mono ?_
        rintro e w3 ⟨rfl, h3, o3⟩
        have H3 := Lib.hid h3
        have HB3 := Lib.hid (bl_only HBL.out o3 (fun i hi => by subst hi; exact Nat.le_trans HLO.out HAT.out.lo.1))
        clear h3 o3
        have hcell := HC.out w3 HB3.out
        go_wp2_with fail
        refine (rest_any _ 4 _ (by decide) (by decide)).mono ?_
        rintro e w3 ⟨rfl, rfl⟩
        go_wp2_with fail
        refine (logFill H3.out I ⟨kdOf zs I, 0⟩ true HRD.out.2.1 (ans2 zs s I) rfl (by omega)).mono ?_
        rintro e w4 ⟨rfl, h4, o4⟩
        have H4 := Lib.hid h4
        have HB4 := Lib.hid (bl_only HB3.out o4 (fun i hi => by subst hi; exact Nat.le_trans HLO.out HAT.out.lo.2.2.1))
        clear h4 o4 hcell
        go_wp2_with fail
        refine (logPost H4.out 0 OutV.zero (-1) (.inl rfl) true HRD.out.2.2.1 (ans3 zs s I) rfl).mono ?_
        rintro e w5 ⟨rfl, h5, o5⟩
        have H5 := Lib.hid h5
        have HB5 := Lib.hid (bl_only HB4.out o5 (fun i hi => by
          rcases hi with rfl | ⟨j, hj, rfl⟩
          · exact Nat.le_trans HLO.out HAT.out.lo.2.2.2.1
          · exact Nat.le_trans HLO.out (HAT.out.lo.2.2.2.2.2 j hj).2))
        clear h5 o5
        go_wp2_with fail
        obtain ⟨l, hl⟩ := HRD.out.2.2.2.1
        refine (logReply_yes H5.out (100 + I) hl HRD.out.2.2.2.2.1).mono ?_
        rintro e w6 ⟨rfl, h6, o6⟩
        have H6 : Hid (LogAt w6 lo L b (ans4 zs s I)) := Lib.hid h6
        have HB6 := Lib.hid (bl_only HB5.out o6 (fun i hi => Nat.le_trans HLO.out (own_lo H5.out i hi)))
        clear h6 o6 hl
        go_wp2_with fail
        go_roundw
        case rel => exact ⟨I + 1, ans4 zs s I, hIN, by simp, H6.out, HRD.out.2.2.2.2.2, HB6.out⟩
        case measure => simp [intOf]; omega
      · obtain rfl : I = N := by omega
        clear hIN
        obtain ⟨r0, hr0⟩ : ∃ r0 : Nat, 0 < I → first % (I : Int) = r0 := ⟨(first % (I : Int)).toNat, fun h => by have := Int.emod_nonneg first (show (I : Int) ≠ 0 by omega); omega⟩
        have HR0 := Lib.hid hr0
        clear hr0
        go_wp2_with fail
        obtain ⟨wo, hwo⟩ : ∃ wo, wo = wr := ⟨_, rfl⟩
        subst hwo
        go_loopw [10] (fun k wr => ∃ (K : Nat) (s : LogS), K ≤ I ∧ k = .int .i64 K ∧ LogAt wr lo L b s ∧ s.ans = ansLeft zs I r0 K ∧ Below w.heap.size w wr) (fun k _ => I - (intOf k).toNat)
        case atStart => exact ⟨0, s, Nat.zero_le _, rfl, HAT.out, by rw [HIN.out.ans, ansLeft_zero], HBL.out⟩
        case round =>
          clear HAT HIN HBL s
          obtain ⟨K, s, hK, rfl, hAt, hAns, hBel⟩ := hrel
          have HAT := Lib.hid hAt
          have HAN := Lib.hid hAns
          have HBL := Lib.hid hBel
          clear hAt hAns hBel
          by_cases hKI : K < I
          · have hpos : 0 < I := by omega
            have hposZ : (0 : Int) < I := by omega
            have hz : ((I : Int) == 0) = false := by simp; omega
            have hq := HR0.out hpos
            have hr0 : r0 < I := by have := Int.emod_lt_of_pos first hposZ; omega
            obtain ⟨i, hi⟩ : ∃ i : Nat, (r0 + K) % I = i := ⟨_, rfl⟩
            have hiI : i < I := by rw [← hi]; exact Nat.mod_lt _ hpos
            have hmod : ((r0 : Int) + K).tmod I = (i : Nat) := by
              rw [Int.tmod_eq_emod_of_nonneg (by omega), ← hi]
              push_cast
              rfl
            have HI := Lib.hid hi
            have HQ := Lib.hid hq
            clear hq hi
            go_wp2_with fail
            refine (rest_any first I _ hposZ (by omega)).mono ?_
            rintro e w3 ⟨rfl, rfl⟩
            simp only [HQ.out]
            go_wp2_with fail
            obtain ⟨v, is, hv, his, hvi⟩ : ∃ v is, (s.ans i).getD 0 = v ∧ (s.ans i).isSome = is ∧ ((is = false ∧ kdOf zs i = 1) ∨ (is = true ∧ v = 100 + i ∧ kdOf zs i ≠ 1)) := by
              refine ⟨_, _, rfl, rfl, ?_⟩
              have e : s.ans i = ansTo zs I i := by
                rw [HAN.out, ← HI.out]
                exact ansLeft_at hKI
              rw [e]
              unfold ansTo
              by_cases h1 : kdOf zs i = 1
              · rw [if_neg (by rw [Int.toNat_natCast]; exact fun g => g.2.2 h1)]
                exact .inl ⟨rfl, h1⟩
              · rw [if_pos ⟨by omega, by omega, by rw [Int.toNat_natCast]; exact h1⟩]
                exact .inr ⟨rfl, rfl, h1⟩
            have HVI := Lib.hid hvi
            have hsa := asked_same (s := s.asked i) (k := i) (if_pos rfl)
            have hnone : (s.asked i).ans i = none := if_pos rfl
            have hnext : ((s.asked i).asked i).ans = ansLeft zs I r0 (K + 1) := by
              rw [hsa]
              show (fun k : Int => if k = (i : Int) then none else s.ans k) = _
              rw [HAN.out, ← HI.out]
              exact ansLeft_next zs I r0 K
            have HNX := Lib.hid hnext
            have HNO := Lib.hid hnone
            refine (logAnswer HAT.out i (by omega) v hv is his).mono ?_
            clear hsa hnone hnext hvi hv his
            rintro e w4 ⟨rfl, h4, o4⟩
            have HB4 := Lib.hid (bl_only HBL.out o4 (fun i hi => by subst hi; exact Nat.le_trans HLO.out HAT.out.lo.2.2.2.2.1))
            obtain ⟨w5, hw5⟩ : ∃ w5, w5 = w4.alloc (.cells #[.int .i64 0, .int .i64 v, .slice none 0 0] 58) := ⟨_, rfl⟩
            have hx5 : w5.heap[w4.heap.size]? = some (.cells #[.int .i64 0, .int .i64 v, .slice none 0 0] 58 (0, 0)) := by rw [hw5]; exact alloc_new _ _
            have H5 : Hid (LogAt w5 lo L b (s.asked i)) := Lib.hid (by rw [hw5]; exact h4.below (bl_alloc (Below.refl _ _) _))
            have HB5 : Hid (Below w.heap.size w w5) := Lib.hid (by rw [hw5]; exact bl_alloc HB4.out _)
            have hnM : ¬ w4.heap.size = b.M := fun e => absurd (own_in h4 b.M (own_map rfl)) (by omega)
            clear h4 o4
            go_wp2_with fail
            rw [← hw5]
            refine (logAnswer H5.out i (by omega) 0 (by rw [HNO.out]; rfl) false (by rw [HNO.out]; rfl)).mono ?_
            rintro e w6 ⟨rfl, h6, o6⟩
            have HB6 := Lib.hid (bl_only HB5.out o6 (fun i hi => by subst hi; exact Nat.le_trans HLO.out HAT.out.lo.2.2.2.2.1))
            have hx6 := o6.block hx5 hnM
            obtain ⟨w7, hw7⟩ : ∃ w7, w7 = w6.alloc (.cells #[.int .i64 0, .int .i64 0, .slice none 0 0] 58) := ⟨_, rfl⟩
            have hx7 : w7.heap[w4.heap.size]? = some (.cells #[.int .i64 0, .int .i64 v, .slice none 0 0] 58 (0, 0)) := by rw [hw7]; exact alloc_old hx6 _
            have H7 : Hid (LogAt w7 lo L b ((s.asked i).asked i)) := Lib.hid (by rw [hw7]; exact h6.below (bl_alloc (Below.refl _ _) _))
            have HB7 : Hid (Below w.heap.size w w7) := Lib.hid (by rw [hw7]; exact bl_alloc HB6.out _)
            have c7 : w7.cell? ⟨w4.heap.size, 1, none⟩ = some (.int .i64 v) := cell_of_blk (cs := [.int .i64 0, .int .i64 v, .slice none 0 0]) hx7 1
            obtain ⟨gb, off, rfl, hc⟩ := HZ0.out.at_ (i := i) (by omega)
            have hcell := hc (w6.alloc (.cells #[.int .i64 0, .int .i64 0, .slice none 0 0] 58)) (bl_alloc HB6.out _)
            have hilen : i < len := by omega
            generalize w4.heap.size = X at *
            have HW7 := Lib.hid hw7
            clear h6 o6 hx5 hx6 hx7 hw7 hw5 hc hnM
            obtain ⟨q, hq⟩ : ∃ q, zs.getD i 0 = q := ⟨_, rfl⟩
            rw [hq] at hcell
            have HKD : Hid (kdOf zs i = 1 + q % 4) := Lib.hid (by rw [← hq]; rfl)
            clear hq
            go_wp2_with fail
            rw [← HW7.out]
            clear hcell
            refine (rest_any _ 4 _ (by decide) (by decide)).mono ?_
            rintro e w8 ⟨rfl, rfl⟩
            rcases HVI.out with ⟨rfl, hk⟩ | ⟨rfl, rfl, hk⟩
            · have e1 : q % 4 = 0 := by rw [HKD.out] at hk; omega
              rw [e1]
              clear e1 hk
              go_wp2_with fail
              go_roundw
              case rel => exact ⟨K + 1, _, hKI, by simp, H7.out, HNX.out, HB7.out⟩
              case measure => simp [intOf]; omega
            · rw [HKD.out] at hk
              have e2 : 1 ≤ q % 4 ∧ q % 4 ≤ 3 := by omega
              obtain ⟨e3, e4⟩ := e2
              have e1 : (1 + q % 4 == 1) = false := by simp; omega
              have e5 : (1 + q % 4 != 1) = true := by simp; omega
              clear hk
              generalize q % 4 = q' at *
              go_wp2_with fail
              go_roundw
              case rel => exact ⟨K + 1, _, hKI, by simp, H7.out, HNX.out, HB7.out⟩
              case measure => simp [intOf]; omega
          · obtain rfl : K = I := by omega
            clear hKI
            have hno : s.ans K = none := by
              rw [HAN.out]
              unfold ansLeft
              split
              · rfl
              · unfold ansTo
                exact if_neg (by omega)
            have HNO := Lib.hid hno
            clear hno
            go_wp2_with fail
            refine (logAnswer HAT.out K (by omega) 0 (by rw [HNO.out]; rfl) false (by rw [HNO.out]; rfl)).mono ?_
            rintro e w4 ⟨rfl, h4, o4⟩
            have HB4 := Lib.hid (bl_only HBL.out o4 (fun i hi => by subst hi; exact Nat.le_trans HLO.out HAT.out.lo.2.2.2.2.1))
            clear h4 o4
            go_wp2_with fail
            go_ret
            exact ⟨rfl, bl_alloc HB4.out _⟩
end Go.Proofs.Ytibbnikfecilhaa
