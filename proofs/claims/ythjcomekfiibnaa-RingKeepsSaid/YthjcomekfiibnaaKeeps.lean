/- The law RingKeeps: its walk. -/
import Derived.Test.YthjcomekfiibnaaHelp10
import Derived.Test.YthjcomekfiibnaaRead
import Derived.Test.YthjcomekfiibnaaKeepsPure
namespace Go.Proofs.Ythjcomekfiibnaa
open Go.RowKit
set_option linter.unusedVariables false

set_option maxHeartbeats 4000000 in
set_option maxRecDepth 100000 in
theorem keeps_law (size : Int) (a : Option Addr) (len cap : Nat) (zs : List Int) (turn : Int) (w : World) (_ : -9223372036854775808 ≤ size ∧ size ≤ 9223372036854775807) (hrow : RowAt (kInt .i64) 8 w a len zs) (_ : -9223372036854775808 ≤ turn ∧ turn ≤ 9223372036854775807) :
    Calls Try.prog 4 #[.int .i64 size, .slice a len cap, .int .i64 turn] w fun e w' => e = .returned (.bool true) ∧ Below w.heap.size w w' := by
  obtain ⟨n, hn⟩ : ∃ n : Nat, 1 + size % 9 = (n : Int) := ⟨(1 + size % 9).toNat, by omega⟩
  have n1 : 1 ≤ n := by omega
  have n2 : n ≤ 9 := by omega
  have hx := hrow.ints
  clear hrow
  have hlen := hx.small
  have HX := Lib.hid hx
  have HN := Lib.hid hn
  clear hx
  have b1 : 0 ≤ size % 9 := by omega
  have b2 : size % 9 ≤ 8 := by omega
  clear hn
  go_enter Try.func4, Try.ntmps4
  go_wp2_with fail
  refine (awake_any _).mono ?_
  rintro e w1 ⟨rfl, hb1⟩
  go_wp2_with fail
  refine (rest_any _ _ _ (by decide) (by decide)).mono ?_
  rintro e w' ⟨rfl, rfl⟩
  go_wp2_with fail
  rw [HN.out]
  refine (new_yes n _ (by omega) (by omega)).mono ?_
  rintro e w2 ⟨rfl, hr2, hb2, hz2⟩
  have hb3 := bl_then hb1 hb2
  obtain ⟨R, hR⟩ : ∃ R, R = w1.heap.size + 1 := ⟨_, rfl⟩
  obtain ⟨B, hB⟩ : ∃ B, B = w1.heap.size := ⟨_, rfl⟩
  have hs1 := hb1.size
  rw [← hR, ← hB] at hr2
  rw [← hR]
  have hRw : w.heap.size ≤ R := by omega
  have hBw : w.heap.size ≤ B := by omega
  clear hz2 hb2 hR hB hs1
  go_wp2_with fail
  go_loopw [10] (fun l wr => ∃ L : Nat, L ≤ len ∧ L ≤ 49 ∧ l = .int .i64 L ∧ Below w.heap.size w wr ∧ ∃ ps, RingAt wr R B n L ps ∧ ∀ k : Nat, k < n → (ringGet ps L ((L : Int) + k)).2 = false) (fun l _ => len - (intOf l).toNat)
  case atStart => exact ⟨0, Nat.zero_le _, by omega, rfl, hb3, _, hr2, fun k h1 => by
    unfold ringGet
    split
    · simp [List.getD_eq_getElem?_getD, List.getElem?_replicate]; split <;> rfl
    · rfl⟩
  case round =>
    obtain ⟨L, hL, hL2, rfl, hb, ps, hr, he⟩ := hrel
    clear hb3 hr2
    have HE := Lib.hid he
    clear he
    by_cases h1 : L < len ∧ L < 40
    · obtain ⟨h1, h2⟩ := h1
      go_wp2_with fail
      · have hlt : (len : Int) - L < n := by assumption
        obtain ⟨m, hm⟩ : ∃ m : Nat, (len : Int) - L = m := ⟨len - L, by omega⟩
        have m1 : 1 ≤ m := by omega
        have m2 : m ≤ n := by omega
        have m3 : L + m ≤ len := by omega
        rw [hm]
        clear hm hlt
        refine (rest_any _ _ _ (by omega) (by omega)).mono ?_
        rintro e w' ⟨rfl, rfl⟩
        obtain ⟨f, hf⟩ : ∃ f : Int, turn % (m : Int) = f := ⟨_, rfl⟩
        have hf0 : 0 ≤ f := by rw [← hf]; exact Int.emod_nonneg _ (by omega)
        have hf1 : f < m := by rw [← hf]; exact Int.emod_lt_of_pos _ (by omega)
        rw [hf]
        clear hf
        obtain ⟨hF0, hlen0⟩ := filled_none HE.out zs m f
        go_wp2_with fail
        obtain ⟨wo, rfl⟩ : ∃ wo : World, wo = wr := ⟨_, rfl⟩
        go_loopw [13] (fun i wr => ∃ I : Nat, I ≤ m ∧ i = .int .i64 I ∧ Below w.heap.size w wr ∧ ∃ ps, RingAt wr R B n L ps ∧ Filled ps L zs m f I n ∧ (ringTo ps L n).length = I) (fun i _ => m - (intOf i).toNat)
        case atStart => exact ⟨0, Nat.zero_le _, rfl, hb, ps, hr, hF0, hlen0⟩
        case round =>
          obtain ⟨I, hI, rfl, hb1, ps1, hr1, hF1, hl1⟩ := hrel
          clear hb hr hF0 hlen0
          have HL1 := Lib.hid hl1
          clear hl1
          have hpl := hr1.len
          by_cases h3 : I < m
          · have k0 : 0 ≤ (f + I) % (m : Int) := Int.emod_nonneg _ (by omega)
            have k1 : (f + I) % (m : Int) < m := Int.emod_lt_of_pos _ (by omega)
            obtain ⟨k, hk⟩ : ∃ k : Nat, (f + I) % (m : Int) = k := ⟨((f + I) % (m : Int)).toNat, by omega⟩
            obtain ⟨hok, hF2, hl2, hg2, hno⟩ := hF1.put hpl (by omega) h3 hk
            rw [hk] at k0 k1
            obtain ⟨b, off, rfl, hbw, hcs⟩ := HX.out.cells (by omega)
            have hcx : ∀ W, Below w.heap.size w W → W.cell? ⟨b, off + (L + k), none⟩ = some (.int .i64 (zs.getD (L + k) 0)) := fun W hW => (hW.cell (p := ⟨b, off + (L + k), none⟩) hbw).trans (hcs _ (by omega))
            generalize zs.getD (L + k) 0 = x at *
            have hc1 := hcx _ hb1
            have HC := Lib.hid hcx
            have HG := Lib.hid hg2
            have HO := Lib.hid hok
            have HO2 := Lib.hid hno
            have HL2 := Lib.hid hl2
            clear hcx hg2 hok hno hl2 hpl hcs
            go_wp2_with fail
            refine (put_to hr1 x _ (by omega) true HO.out _ rfl).mono ?_
            rintro e w3 ⟨rfl, hr3, ho3, hz3⟩
            have hb3 := bl_only hb1 ho3 (by rintro i (rfl | rfl) <;> omega)
            clear ho3 hz3 hc1 hb1 hr1
            go_wp2_with fail
            refine (put_to hr3 7 _ (by omega) false HO2.out _ rfl).mono ?_
            rintro e w4 ⟨rfl, hr4, ho4, hz4⟩
            have hb4 := bl_only hb3 ho4 (by rintro i (rfl | rfl) <;> omega)
            clear ho4 hz4 hb3 hr3
            simp only [Bool.false_eq_true, if_false, if_true] at hr4
            go_wp2_with fail
            have hget := get_any hr4 ((L : Int) + k) (by omega)
            rw [HG.out] at hget
            refine hget.mono ?_
            rintro e w5 ⟨rfl, hd5⟩
            clear hget
            have hb5 := bl_draws hb4 hd5
            have hr5 : RingAt w5 R B n L (ringPut ps1 ((L : Int) + k) x) := by obtain ⟨j, rfl⟩ := hd5; exact hr4.drewN j
            clear hd5 hb4 hr4
            have hc5 := HC.out _ hb5
            go_wp2_with fail
            refine (len_any hr5).mono ?_
            rintro e w6 ⟨rfl, hbl6⟩
            rw [HL2.out, HL1.out]
            have hb6 := bl_then hb5 hbl6
            have hr6 : RingAt w6 R B n L (ringPut ps1 ((L : Int) + k) x) := hr5.kept (S := fun _ => False) (Only.of_below hbl6) id id
            have hnum : ((I + 1 : Nat) : Int) = (I : Int) + 1 := by omega
            rw [hnum]
            clear hb5 hbl6 hr5 hc5 hnum
            have HF2 := Lib.hid hF2
            clear hF2 hF1
            go_wp2_with fail
            go_roundw
            case rel => exact ⟨I + 1, by omega, by go_num, hb6, _, hr6, HF2.out, by rw [HL2.out, HL1.out]⟩
            case measure => simp [intOf]; omega
          · obtain rfl : m = I := by omega
            have hL0 := hF1.lies (by omega)
            clear hF1
            go_wp2_with fail
            obtain ⟨wi, rfl⟩ : ∃ wi : World, wi = wr := ⟨_, rfl⟩
            go_loopw [17] (fun i wr => ∃ J : Nat, J ≤ m ∧ i = .int .i64 J ∧ Below w.heap.size w wr ∧ ∃ ps, RingAt wr R B n ((L + J : Nat) : Int) ps ∧ Lies ps (L + J) zs (L + m) n) (fun i _ => m - (intOf i).toNat)
            case atStart => exact ⟨0, Nat.zero_le _, rfl, hb1, ps1, by simpa using hr1, by simpa using hL0⟩
            case round =>
              obtain ⟨J, hJ, rfl, hb2, ps2, hr2, hL2'⟩ := hrel
              clear hb1 hr1 hL0 hpl
              have HL2 := Lib.hid hL2'
              clear hL2'
              by_cases h4 : J < m
              · obtain ⟨hd, hgx, hL3⟩ := HL2.out.drop hr2.len (by omega) (by omega) (by omega) (by omega)
                obtain ⟨b, off, rfl, hbw, hcs⟩ := HX.out.cells (by omega)
                have hcx : ∀ W, Below w.heap.size w W → W.cell? ⟨b, off + (L + J), none⟩ = some (.int .i64 (zs.getD (L + J) 0)) := fun W hW => (hW.cell (p := ⟨b, off + (L + J), none⟩) hbw).trans (hcs _ (by omega))
                generalize zs.getD (L + J) 0 = x at *
                have HC := Lib.hid hcx
                have HD := Lib.hid hd
                have HGX := Lib.hid hgx
                have HL3 := Lib.hid hL3
                clear hcx hd hgx hL3 hcs
                go_wp2_with fail
                refine (drop_to hr2 true HD.out x HGX.out _ rfl _ rfl).mono ?_
                rintro e w3 ⟨rfl, hr3, ho3, hz3⟩
                have hb3 := bl_only hb2 ho3 (by rintro i (rfl | rfl) <;> omega)
                simp only [if_true] at hr3
                clear ho3 hz3 hb2 hr2
                have hc3 := HC.out _ hb3
                go_wp2_with fail
                refine (low_any hr3).mono ?_
                rintro e w4 ⟨rfl, hd4⟩
                have hb4 := bl_draws hb3 hd4
                have hr4 : RingAt w4 R B n ((L + (J + 1) : Nat) : Int) (ringDrop ps2 ((L + J : Nat) : Int)) := by
                  obtain ⟨j, rfl⟩ := hd4
                  have := hr3.drewN j
                  rwa [show ((L + J : Nat) : Int) + 1 = ((L + (J + 1) : Nat) : Int) by omega] at this
                clear hd4 hb3 hr3 hc3
                rw [show ((L + J : Nat) : Int) + 1 = (L : Int) + (J : Int) + 1 by omega]
                go_wp2_with fail
                go_roundw
                case rel => exact ⟨J + 1, by omega, by go_num, hb4, _, hr4, HL3.out⟩
                case measure => simp [intOf]; omega
              · obtain rfl : m = J := by omega
                have hn2 := HL2.out.none
                have HN2 := Lib.hid hn2
                clear hn2
                go_wp2_with fail
                go_roundw
                case rel => exact ⟨L + m, by omega, by omega, by go_num, hb2, _, hr2, HN2.out⟩
                case measure => simp [intOf]; omega
      · have hle : (n : Int) ≤ (len : Int) - L := by assumption
        have m3 : L + n ≤ len := by omega
        clear hle
        refine (rest_any _ _ _ (by omega) (by omega)).mono ?_
        rintro e w' ⟨rfl, rfl⟩
        obtain ⟨f, hf⟩ : ∃ f : Int, turn % (n : Int) = f := ⟨_, rfl⟩
        have hf0 : 0 ≤ f := by rw [← hf]; exact Int.emod_nonneg _ (by omega)
        have hf1 : f < n := by rw [← hf]; exact Int.emod_lt_of_pos _ (by omega)
        rw [hf]
        clear hf
        obtain ⟨hF0, hlen0⟩ := filled_none HE.out zs n f
        go_wp2_with fail
        obtain ⟨wo, rfl⟩ : ∃ wo : World, wo = wr := ⟨_, rfl⟩
        go_loopw [13] (fun i wr => ∃ I : Nat, I ≤ n ∧ i = .int .i64 I ∧ Below w.heap.size w wr ∧ ∃ ps, RingAt wr R B n L ps ∧ Filled ps L zs n f I n ∧ (ringTo ps L n).length = I) (fun i _ => n - (intOf i).toNat)
        case atStart => exact ⟨0, Nat.zero_le _, rfl, hb, ps, hr, hF0, hlen0⟩
        case round =>
          obtain ⟨I, hI, rfl, hb1, ps1, hr1, hF1, hl1⟩ := hrel
          clear hb hr hF0 hlen0
          have HL1 := Lib.hid hl1
          clear hl1
          have hpl := hr1.len
          by_cases h3 : I < n
          · have k0 : 0 ≤ (f + I) % (n : Int) := Int.emod_nonneg _ (by omega)
            have k1 : (f + I) % (n : Int) < n := Int.emod_lt_of_pos _ (by omega)
            obtain ⟨k, hk⟩ : ∃ k : Nat, (f + I) % (n : Int) = k := ⟨((f + I) % (n : Int)).toNat, by omega⟩
            obtain ⟨hok, hF2, hl2, hg2, hno⟩ := hF1.put hpl (by omega) h3 hk
            rw [hk] at k0 k1
            obtain ⟨b, off, rfl, hbw, hcs⟩ := HX.out.cells (by omega)
            have hcx : ∀ W, Below w.heap.size w W → W.cell? ⟨b, off + (L + k), none⟩ = some (.int .i64 (zs.getD (L + k) 0)) := fun W hW => (hW.cell (p := ⟨b, off + (L + k), none⟩) hbw).trans (hcs _ (by omega))
            generalize zs.getD (L + k) 0 = x at *
            have hc1 := hcx _ hb1
            have HC := Lib.hid hcx
            have HG := Lib.hid hg2
            have HO := Lib.hid hok
            have HO2 := Lib.hid hno
            have HL2 := Lib.hid hl2
            clear hcx hg2 hok hno hl2 hpl hcs
            go_wp2_with fail
            refine (put_to hr1 x _ (by omega) true HO.out _ rfl).mono ?_
            rintro e w3 ⟨rfl, hr3, ho3, hz3⟩
            have hb3 := bl_only hb1 ho3 (by rintro i (rfl | rfl) <;> omega)
            clear ho3 hz3 hc1 hb1 hr1
            go_wp2_with fail
            refine (put_to hr3 7 _ (by omega) false HO2.out _ rfl).mono ?_
            rintro e w4 ⟨rfl, hr4, ho4, hz4⟩
            have hb4 := bl_only hb3 ho4 (by rintro i (rfl | rfl) <;> omega)
            clear ho4 hz4 hb3 hr3
            simp only [Bool.false_eq_true, if_false, if_true] at hr4
            go_wp2_with fail
            have hget := get_any hr4 ((L : Int) + k) (by omega)
            rw [HG.out] at hget
            refine hget.mono ?_
            rintro e w5 ⟨rfl, hd5⟩
            clear hget
            have hb5 := bl_draws hb4 hd5
            have hr5 : RingAt w5 R B n L (ringPut ps1 ((L : Int) + k) x) := by obtain ⟨j, rfl⟩ := hd5; exact hr4.drewN j
            clear hd5 hb4 hr4
            have hc5 := HC.out _ hb5
            go_wp2_with fail
            refine (len_any hr5).mono ?_
            rintro e w6 ⟨rfl, hbl6⟩
            rw [HL2.out, HL1.out]
            have hb6 := bl_then hb5 hbl6
            have hr6 : RingAt w6 R B n L (ringPut ps1 ((L : Int) + k) x) := hr5.kept (S := fun _ => False) (Only.of_below hbl6) id id
            have hnum : ((I + 1 : Nat) : Int) = (I : Int) + 1 := by omega
            rw [hnum]
            clear hb5 hbl6 hr5 hc5 hnum
            have HF2 := Lib.hid hF2
            clear hF2 hF1
            go_wp2_with fail
            go_roundw
            case rel => exact ⟨I + 1, by omega, by go_num, hb6, _, hr6, HF2.out, by rw [HL2.out, HL1.out]⟩
            case measure => simp [intOf]; omega
          · obtain rfl : n = I := by omega
            have hL0 := hF1.lies (by omega)
            clear hF1
            go_wp2_with fail
            obtain ⟨wi, rfl⟩ : ∃ wi : World, wi = wr := ⟨_, rfl⟩
            go_loopw [17] (fun i wr => ∃ J : Nat, J ≤ n ∧ i = .int .i64 J ∧ Below w.heap.size w wr ∧ ∃ ps, RingAt wr R B n ((L + J : Nat) : Int) ps ∧ Lies ps (L + J) zs (L + n) n) (fun i _ => n - (intOf i).toNat)
            case atStart => exact ⟨0, Nat.zero_le _, rfl, hb1, ps1, by simpa using hr1, by simpa using hL0⟩
            case round =>
              obtain ⟨J, hJ, rfl, hb2, ps2, hr2, hL2'⟩ := hrel
              clear hb1 hr1 hL0 hpl
              have HL2 := Lib.hid hL2'
              clear hL2'
              by_cases h4 : J < n
              · obtain ⟨hd, hgx, hL3⟩ := HL2.out.drop hr2.len (by omega) (by omega) (by omega) (by omega)
                obtain ⟨b, off, rfl, hbw, hcs⟩ := HX.out.cells (by omega)
                have hcx : ∀ W, Below w.heap.size w W → W.cell? ⟨b, off + (L + J), none⟩ = some (.int .i64 (zs.getD (L + J) 0)) := fun W hW => (hW.cell (p := ⟨b, off + (L + J), none⟩) hbw).trans (hcs _ (by omega))
                generalize zs.getD (L + J) 0 = x at *
                have HC := Lib.hid hcx
                have HD := Lib.hid hd
                have HGX := Lib.hid hgx
                have HL3 := Lib.hid hL3
                clear hcx hd hgx hL3 hcs
                go_wp2_with fail
                refine (drop_to hr2 true HD.out x HGX.out _ rfl _ rfl).mono ?_
                rintro e w3 ⟨rfl, hr3, ho3, hz3⟩
                have hb3 := bl_only hb2 ho3 (by rintro i (rfl | rfl) <;> omega)
                simp only [if_true] at hr3
                clear ho3 hz3 hb2 hr2
                have hc3 := HC.out _ hb3
                go_wp2_with fail
                refine (low_any hr3).mono ?_
                rintro e w4 ⟨rfl, hd4⟩
                have hb4 := bl_draws hb3 hd4
                have hr4 : RingAt w4 R B n ((L + (J + 1) : Nat) : Int) (ringDrop ps2 ((L + J : Nat) : Int)) := by
                  obtain ⟨j, rfl⟩ := hd4
                  have := hr3.drewN j
                  rwa [show ((L + J : Nat) : Int) + 1 = ((L + (J + 1) : Nat) : Int) by omega] at this
                clear hd4 hb3 hr3 hc3
                rw [show ((L + J : Nat) : Int) + 1 = (L : Int) + (J : Int) + 1 by omega]
                go_wp2_with fail
                go_roundw
                case rel => exact ⟨J + 1, by omega, by go_num, hb4, _, hr4, HL3.out⟩
                case measure => simp [intOf]; omega
              · obtain rfl : n = J := by omega
                have hn2 := HL2.out.none
                have HN2 := Lib.hid hn2
                clear hn2
                go_wp2_with fail
                go_roundw
                case rel => exact ⟨L + n, by omega, by omega, by go_num, hb2, _, hr2, HN2.out⟩
                case measure => simp [intOf]; omega
    · have hnd := no_drop (by omega) HE.out
      have hl0 := (filled_none HE.out zs 0 0).2
      have HL0 := Lib.hid hl0
      have HND := Lib.hid hnd
      clear hl0 hnd
      have hcase : (len : Int) ≤ L ∨ (L : Int) < len ∧ (40 : Int) ≤ L := by omega
      clear h1
      rcases hcase with h1 | ⟨h1, h2⟩
      all_goals
        go_wp2_with fail
        refine (drop_to hr false HND.out 0 rfl _ rfl _ rfl).mono ?_
        rintro e w3 ⟨rfl, hr3, ho3, hz3⟩
        have hb3 := bl_only hb ho3 (by rintro i (rfl | rfl) <;> omega)
        simp only [Bool.false_eq_true, if_false] at hr3
        clear ho3 hz3
        go_wp2_with fail
        refine (len_any hr3).mono ?_
        rintro e w4 ⟨rfl, hb4⟩
        rw [HL0.out]
        have hb5 := bl_then hb3 hb4
        go_wp2_with fail
        go_ret
        exact ⟨rfl, hb5⟩
end Go.Proofs.Ythjcomekfiibnaa
