/- Chapter 12: EpochWaits. -/
import Derived.Test.YtpklpomajioneaaEpLaw
namespace Go.Proofs.Ytpklpomajioneaa
open Go.RowKit
set_option linter.unusedVariables false
set_option linter.unusedSimpArgs false

theorem blocked_no {s : EpS} (h : ∀ i, i < 16 → s.pin i = -1 ∨ s.pin i = s.now) : s.blocked = false := by
  unfold EpS.blocked
  rw [List.any_eq_false]
  intro i hi
  have := h i (by simpa using hi)
  rcases this with h | h <;> simp [h]
theorem blocked_yes {s : EpS} {i : Nat} (hi : i < 16) (h1 : s.pin i ≠ -1) (h2 : s.pin i ≠ s.now) : s.blocked = true := by
  unfold EpS.blocked
  rw [List.any_eq_true]
  exact ⟨i, by simpa using hi, by simp [h1, h2]⟩
/-- Is a bit set? -/
def bitOf (x : Int) (i : Nat) : Bool := bits BinOp.and IntKind.i64 (x / 2 ^ i) 1 == 1
/-- The first K actors are pinned, by bits. -/
def pinsOf (x : Int) (at_ : Nat) (J K : Nat) : Nat → Int := fun i => if J ≤ i ∧ i < K ∧ bitOf x i = true then (at_ : Int) else -1
def someOf (x : Int) (K : Nat) : Bool := (List.range K).any fun i => bitOf x i

theorem someOf_succ (x : Int) (K : Nat) : someOf x (K + 1) = (someOf x K || bitOf x K) := by
  unfold someOf
  rw [List.range_succ, List.any_append]
  simp
theorem pins_yes {x : Int} {at_ K : Nat} (h : bitOf x K = true) : upd (pinsOf x at_ 0 K) K (at_ : Int) = pinsOf x at_ 0 (K + 1) := by
  funext i
  unfold upd pinsOf
  by_cases hi : i = K
  · subst hi
    rw [if_pos rfl, if_pos ⟨Nat.zero_le _, by omega, h⟩]
  · rw [if_neg hi]
    by_cases hc : 0 ≤ i ∧ i < K ∧ bitOf x i = true
    · rw [if_pos hc, if_pos ⟨hc.1, by omega, hc.2.2⟩]
    · rw [if_neg hc, if_neg (fun hd => hc ⟨hd.1, by omega, hd.2.2⟩)]
theorem pins_no {x : Int} {at_ K : Nat} (h : bitOf x K = false) : pinsOf x at_ 0 K = pinsOf x at_ 0 (K + 1) := by
  funext i
  unfold pinsOf
  by_cases hc : 0 ≤ i ∧ i < K ∧ bitOf x i = true
  · rw [if_pos hc, if_pos ⟨hc.1, by omega, hc.2.2⟩]
  · rw [if_neg hc, if_neg]
    rintro ⟨h1, h2, h3⟩
    by_cases hi : i = K
    · subst hi; rw [h] at h3; cases h3
    · exact hc ⟨h1, by omega, h3⟩
theorem unpins_yes {x : Int} {at_ K n : Nat} : upd (pinsOf x at_ K n) K (-1) = pinsOf x at_ (K + 1) n := by
  funext i
  unfold upd pinsOf
  by_cases hi : i = K
  · subst hi
    rw [if_pos rfl, if_neg (by omega)]
  · rw [if_neg hi]
    by_cases hc : K ≤ i ∧ i < n ∧ bitOf x i = true
    · rw [if_pos hc, if_pos ⟨by omega, hc.2⟩]
    · rw [if_neg hc, if_neg (fun hd => hc ⟨by omega, hd.2⟩)]
theorem unpins_no {x : Int} {at_ K n : Nat} (h : bitOf x K = false) : pinsOf x at_ K n = pinsOf x at_ (K + 1) n := by
  funext i
  unfold pinsOf
  by_cases hc : K ≤ i ∧ i < n ∧ bitOf x i = true
  · have : i ≠ K := by rintro rfl; rw [h] at hc; cases hc.2.2
    rw [if_pos hc, if_pos ⟨by omega, hc.2⟩]
  · rw [if_neg hc, if_neg (fun hd => hc ⟨by omega, hd.2⟩)]
theorem pins_at {x : Int} {at_ J n i : Nat} (h1 : J ≤ i) (h2 : i < n) (h : bitOf x i = true) : pinsOf x at_ J n i = at_ := if_pos ⟨h1, h2, h⟩
theorem pins_off {x : Int} {at_ J n i : Nat} (h : bitOf x i = false) : pinsOf x at_ J n i = -1 := if_neg (fun hc => by rw [h] at hc; cases hc.2.2)
theorem pins_or (x : Int) (at_ J n i : Nat) : pinsOf x at_ J n i = -1 ∨ pinsOf x at_ J n i = at_ := by
  unfold pinsOf
  split
  · exact .inr rfl
  · exact .inl rfl
theorem some_no {x : Int} {n : Nat} (h : someOf x n = false) (at_ J i : Nat) : pinsOf x at_ J n i = -1 := by
  refine if_neg (fun hc => ?_)
  unfold someOf at h
  rw [List.any_eq_false] at h
  exact h i (by simpa using hc.2.1) hc.2.2
theorem some_yes {x : Int} {n : Nat} (h : someOf x n = true) : ∃ i, i < n ∧ bitOf x i = true := by
  unfold someOf at h
  rw [List.any_eq_true] at h
  obtain ⟨i, hi, hb⟩ := h
  exact ⟨i, by simpa using hi, hb⟩

set_option maxHeartbeats 4000000 in
set_option maxRecDepth 100000 in
theorem waits_law (actors bt o0 o1 : Int) (w : World) (ha : -9223372036854775808 ≤ actors ∧ actors ≤ 9223372036854775807) (hb : -9223372036854775808 ≤ bt ∧ bt ≤ 9223372036854775807) (h0 : -9223372036854775808 ≤ o0 ∧ o0 ≤ 9223372036854775807) (h1 : -9223372036854775808 ≤ o1 ∧ o1 ≤ 9223372036854775807) :
    Calls Try.prog 5 #[.int .i64 actors, .int .i64 bt, .agg #[.int .i64 o0, .int .i64 o1]] w fun e w' => e = .returned (.bool true) ∧ Below w.heap.size w w' := by
  obtain ⟨n, hn⟩ : ∃ n : Nat, 1 + actors % 5 = (n : Int) := ⟨(1 + actors % 5).toNat, by omega⟩
  have n1 : 1 ≤ n := by omega
  have n5 : n ≤ 5 := by omega
  obtain ⟨A, hA⟩ : ∃ n : Nat, o0 % 6 = (n : Int) := ⟨(o0 % 6).toNat, by omega⟩
  have A5 : A ≤ 5 := by omega
  obtain ⟨B, hB⟩ : ∃ n : Nat, o1 % 6 = (n : Int) := ⟨(o1 % 6).toNat, by omega⟩
  have B5 : B ≤ 5 := by omega
  have HNN := Lib.hid hn
  have HAA := Lib.hid hA
  have HBB := Lib.hid hB
  clear hn hA hB
  go_enter Try.func5, Try.ntmps5
  go_wp2_with fail
  have hO0 := alloc_new w (.cells #[.int .i64 o0, .int .i64 o1] 46)
  have b0 : Below w.heap.size w (w.alloc (.cells #[.int .i64 o0, .int .i64 o1] 46)) := bl_alloc (Below.refl _ _) _
  generalize w.alloc (.cells #[.int .i64 o0, .int .i64 o1] 46) = w0 at *
  refine (awake_any _).mono ?_
  rintro e w1 ⟨rfl, b1⟩
  have hO1 := (b1.block _ (block_lt hO0)).trans hO0
  have hb1 := bl_then b0 b1
  clear hO0 b0 b1
  go_wp2_with fail
  refine (rest_any actors 5 _ (by decide) (by decide)).mono ?_
  rintro e w2 ⟨rfl, rfl⟩
  go_wp2_with fail
  simp only [HNN.out]
  refine (new_any n _ n1 (by omega)).mono ?_
  rintro e w2 ⟨rfl, h2, b2⟩
  have hO2 := (b2.block _ (block_lt hO1)).trans hO1
  have hb2 := bl_then hb1 b2
  have lo2 := hb1.size
  have lO := block_lt hO1
  generalize w1.heap.size = b at *
  have x0 : w2.cell? ⟨w.heap.size, 0, none⟩ = some (.int .i64 o0) := cell_of_blk hO2 0
  clear hO1 hb1 b2
  go_wp2_with fail
  refine (rest_any o0 6 _ (by decide) (by decide)).mono ?_
  rintro e w3 ⟨rfl, rfl⟩
  go_wp2_with fail
  simp only [HAA.out]
  go_loopw [11] (fun i wr => ∃ I : Nat, I ≤ A ∧ i = .int .i64 I ∧ EpAt wr b b n ⟨I, fun _ => -1, fun _ => []⟩ (fun _ => .slice none 0 0) ∧ Below w.heap.size w wr ∧ wr.heap[w.heap.size]? = some (.cells #[.int .i64 o0, .int .i64 o1] 46)) (fun i _ => A - (intOf i).toNat)
  case atStart => exact ⟨0, Nat.zero_le _, rfl, h2, hb2, hO2⟩
  case round =>
    obtain ⟨I, hI, rfl, h3, hb3, hO3⟩ := hrel
    by_cases c1 : I < A
    · go_wp2_with fail
      refine (advance_yes h3 (by show I ≤ 1000000; omega) (blocked_no (fun i _ => .inl rfl))).mono ?_
      rintro e w4 ⟨rfl, h4, o4⟩
      have hb4 := bl_only hb3 o4 (by rintro k rfl; exact lo2)
      have hO4 := o4.block hO3 (by omega)
      go_wp2_with fail
      go_roundw
      case rel => exact ⟨I + 1, by omega, by simp, h4, hb4, hO4⟩
      case measure => simp [intOf]; omega
    · obtain rfl : I = A := by omega
      clear c1 h2 hb2 hO2 x0
      go_wp2_with fail
      go_loopw [12, 13] (fun sm a wr => ∃ K : Nat, K ≤ n ∧ a = .int .i64 K ∧ sm = .bool (someOf bt K) ∧ EpAt wr b b n ⟨I, pinsOf bt I 0 K, fun _ => []⟩ (fun _ => .slice none 0 0) ∧ Below w.heap.size w wr ∧ wr.heap[w.heap.size]? = some (.cells #[.int .i64 o0, .int .i64 o1] 46)) (fun _ a _ => n - (intOf a).toNat)
      case atStart => exact ⟨0, Nat.zero_le _, rfl, rfl, by rw [show pinsOf bt I 0 0 = fun _ => -1 by funext i; exact if_neg (by omega)]; exact h3, hb3, hO3⟩
      case round =>
        obtain ⟨K, hK, rfl, rfl, h5, hb5, hO5⟩ := hrel
        clear h3 hb3 hO3
        by_cases c2 : K < n
        · have hsu := someOf_succ bt K
          have e2 : (K : Int).toNat = K := by omega
          cases hbit : bitOf bt K
          · have d1 : (bits BinOp.and IntKind.i64 (bt / 2 ^ K) 1 == 1) = false := hbit
            rw [hbit, Bool.or_false] at hsu
            have HSU := Lib.hid hsu
            have HP := Lib.hid (pins_no (at_ := I) hbit)
            clear hsu hbit
            go_wp2_with fail
            go_roundw
            case rel => exact ⟨K + 1, by omega, by simp, by rw [HSU.out], by rw [← HP.out]; exact h5, hb5, hO5⟩
            case measure => simp [intOf]; omega
          · have d1 : (bits BinOp.and IntKind.i64 (bt / 2 ^ K) 1 == 1) = true := hbit
            rw [hbit, Bool.or_true] at hsu
            have HSU := Lib.hid hsu
            have HP := Lib.hid (pins_yes (at_ := I) hbit)
            clear hsu hbit
            go_wp2_with fail
            refine (pin_yes h5 c2 (if_neg (by omega))).mono ?_
            rintro e w6 ⟨rfl, h6, o6⟩
            have hb6 := bl_only hb5 o6 (by rintro k rfl; exact lo2)
            have hO6 := o6.block hO5 (by omega)
            change EpAt w6 b b n ⟨I, upd (pinsOf bt I 0 K) K (I : Int), fun _ => []⟩ _ at h6
            rw [HP.out] at h6
            go_wp2_with fail
            go_roundw
            case rel => exact ⟨K + 1, by omega, by simp, by rw [HSU.out], h6, hb6, hO6⟩
            case measure => simp [intOf]; omega
        · obtain rfl : K = n := by omega
          have x1 : wr.cell? ⟨w.heap.size, 1, none⟩ = some (.int .i64 o1) := cell_of_blk hO5 1
          clear c2 hO5
          go_wp2_with fail
          refine (rest_any o1 6 _ (by decide) (by decide)).mono ?_
          rintro e w7 ⟨rfl, rfl⟩
          go_wp2_with fail
          simp only [HBB.out]
          clear x1
          cases hsm : someOf bt K
          · have hp0 : pinsOf bt I 0 K = fun _ => -1 := funext fun i => some_no hsm I 0 i
            rw [hp0] at h5
            have HSM := Lib.hid hsm
            clear hsm hp0
            go_loopw [15] (fun i wr => ∃ J : Nat, J ≤ B ∧ i = .int .i64 J ∧ EpAt wr b b K ⟨I + J, fun _ => -1, fun _ => []⟩ (fun _ => .slice none 0 0) ∧ Below w.heap.size w wr) (fun i _ => B - (intOf i).toNat)
            case atStart => exact ⟨0, Nat.zero_le _, rfl, h5, hb5⟩
            case round =>
              obtain ⟨J, hJ, rfl, h6, hb6⟩ := hrel
              clear h5 hb5
              by_cases c3 : J < B
              · go_wp2_with fail
                refine (advance_yes h6 (by show I + J ≤ 1000000; omega) (blocked_no (fun i _ => .inl rfl))).mono ?_
                rintro e w7 ⟨rfl, h7, o7⟩
                have hb7 := bl_only hb6 o7 (by rintro k rfl; exact lo2)
                go_wp2_with fail
                go_roundw
                case rel => exact ⟨J + 1, by omega, by simp, h7, hb7⟩
                case measure => simp [intOf]; omega
              · obtain rfl : J = B := by omega
                clear c3
                have s1 : IntKind.i64.wrap ((I : Int) + J) = ((I + J : Nat) : Int) := (IntWalk.i64_in _ (by omega)).trans (by omega)
                go_wp2_with fail
                go_loopw [17] (fun a wr => ∃ M : Nat, M ≤ K ∧ a = .int .i64 M ∧ EpAt wr b b K ⟨I + J, fun _ => -1, fun _ => []⟩ (fun _ => .slice none 0 0) ∧ Below w.heap.size w wr) (fun i _ => K - (intOf i).toNat)
                case atStart => exact ⟨0, Nat.zero_le _, rfl, h6, hb6⟩
                case round =>
                  obtain ⟨M, hM, rfl, h8, hb8⟩ := hrel
                  clear h6 hb6
                  by_cases c4 : M < K
                  · have hbit : bitOf bt M = false := by
                      have := HSM.out
                      unfold someOf at this
                      rw [List.any_eq_false] at this
                      have h9 := this M (by simpa using c4)
                      simpa using h9
                    have d1 : (bits BinOp.and IntKind.i64 (bt / 2 ^ M) 1 == 1) = false := hbit
                    have e2 : (M : Int).toNat = M := by omega
                    clear hbit
                    go_wp2_with fail
                    refine (pinned_no h8 c4 rfl).mono ?_
                    rintro e w9 ⟨rfl, rfl⟩
                    go_wp2_with fail
                    refine (unpin_no h8 c4 rfl).mono ?_
                    rintro e w9 ⟨rfl, rfl⟩
                    go_wp2_with fail
                    go_roundw
                    case rel => exact ⟨M + 1, by omega, by simp, h8, hb8⟩
                    case measure => simp [intOf]; omega
                  · obtain rfl : M = K := by omega
                    clear c4
                    go_wp2_with fail
                    refine (now_any h8).mono ?_
                    rintro e w9 ⟨rfl, rfl⟩
                    go_wp2_with fail
                    refine (advance_yes h8 (by show I + J ≤ 1000000; omega) (blocked_no (fun i _ => .inl rfl))).mono ?_
                    rintro e w9 ⟨rfl, h9, o9⟩
                    go_wp2_with fail
                    go_ret
                    exact ⟨rfl, bl_only hb8 o9 (by rintro k rfl; exact lo2)⟩
          · obtain ⟨q, hq, hqb⟩ := some_yes hsm
            have HQ := Lib.hid hqb
            clear hsm hqb
            go_loopw [15] (fun i wr => ∃ J D : Nat, J ≤ B ∧ i = .int .i64 J ∧ D ≤ 1 ∧ D ≤ J ∧ (1 ≤ J → 1 ≤ D) ∧ EpAt wr b b K ⟨I + D, pinsOf bt I 0 K, fun _ => []⟩ (fun _ => .slice none 0 0) ∧ Below w.heap.size w wr) (fun i _ => B - (intOf i).toNat)
            case atStart => exact ⟨0, 0, Nat.zero_le _, rfl, by omega, by omega, by omega, h5, hb5⟩
            case round =>
              obtain ⟨J, D, hJ, rfl, hD1, hD2, hD3, h6, hb6⟩ := hrel
              clear h5 hb5
              by_cases c3 : J < B
              · rcases Nat.eq_zero_or_pos J with c5 | c5
                · subst c5
                  obtain rfl : D = 0 := by omega
                  go_wp2_with fail
                  refine (advance_yes h6 (by show I + 0 ≤ 1000000; omega) (blocked_no (fun i _ => pins_or bt I 0 K i))).mono ?_
                  rintro e w7 ⟨rfl, h7, o7⟩
                  have hb7 := bl_only hb6 o7 (by rintro k rfl; exact lo2)
                  go_wp2_with fail
                  go_roundw
                  case rel => exact ⟨1, 1, by omega, by simp, by omega, by omega, by omega, h7, hb7⟩
                  case measure => simp [intOf]; omega
                · obtain rfl : D = 1 := by have := hD3 c5; omega
                  have d5 : ((J : Int) == 0) = false := by simp; omega
                  go_wp2_with fail
                  refine (advance_no h6 (by show I + 1 ≤ 1000000; omega) (blocked_yes (i := q) (by omega) (by show pinsOf bt I 0 K q ≠ -1; rw [pins_at (Nat.zero_le _) hq HQ.out]; omega) (by show pinsOf bt I 0 K q ≠ ((I + 1 : Nat) : Int); rw [pins_at (Nat.zero_le _) hq HQ.out]; omega))).mono ?_
                  rintro e w7 ⟨rfl, b67⟩
                  have h7 := h6.below0 b67
                  have hb7 := bl_then hb6 b67
                  go_wp2_with fail
                  go_roundw
                  case rel => exact ⟨J + 1, 1, by omega, by simp, by omega, by omega, by omega, h7, hb7⟩
                  case measure => simp [intOf]; omega
              · obtain rfl : J = B := by omega
                clear c3
                have s1 : IntKind.i64.wrap ((I : Int) + J) = ((I + J : Nat) : Int) := (IntWalk.i64_in _ (by omega)).trans (by omega)
                have s2 : IntKind.i64.wrap ((I : Int) + D) = ((I + D : Nat) : Int) := (IntWalk.i64_in _ (by omega)).trans (by omega)
                have m1 : min (J : Int) 1 = D := by omega
                go_wp2_with fail
                go_loopw [17] (fun a wr => ∃ M : Nat, M ≤ K ∧ a = .int .i64 M ∧ EpAt wr b b K ⟨I + D, pinsOf bt I M K, fun _ => []⟩ (fun _ => .slice none 0 0) ∧ Below w.heap.size w wr) (fun i _ => K - (intOf i).toNat)
                case atStart => exact ⟨0, Nat.zero_le _, rfl, h6, hb6⟩
                case round =>
                  obtain ⟨M, hM, rfl, h8, hb8⟩ := hrel
                  clear h6 hb6
                  by_cases c4 : M < K
                  · have e2 : (M : Int).toNat = M := by omega
                    cases hbit : bitOf bt M
                    · have d1 : (bits BinOp.and IntKind.i64 (bt / 2 ^ M) 1 == 1) = false := hbit
                      have HP := Lib.hid (unpins_no (at_ := I) (n := K) hbit)
                      have HO := Lib.hid (pins_off (at_ := I) (J := M) (n := K) hbit)
                      clear hbit
                      go_wp2_with fail
                      refine (pinned_no h8 c4 HO.out).mono ?_
                      rintro e w9 ⟨rfl, rfl⟩
                      go_wp2_with fail
                      refine (unpin_no h8 c4 HO.out).mono ?_
                      rintro e w9 ⟨rfl, rfl⟩
                      go_wp2_with fail
                      go_roundw
                      case rel => exact ⟨M + 1, by omega, by simp, by rw [← HP.out]; exact h8, hb8⟩
                      case measure => simp [intOf]; omega
                    · have d1 : (bits BinOp.and IntKind.i64 (bt / 2 ^ M) 1 == 1) = true := hbit
                      have HO := Lib.hid (pins_at (at_ := I) (Nat.le_refl M) c4 hbit)
                      have hne : pinsOf bt I M K M ≠ -1 := by rw [HO.out]; omega
                      have hcall := pinned_yes h8 c4 hne
                      change Calls _ _ _ _ (fun e w' => e = .returned (.tuple #[.int .i64 (pinsOf bt I M K M), .bool true]) ∧ _) at hcall
                      rw [HO.out] at hcall
                      have HC := Lib.hid hcall
                      have HNE := Lib.hid hne
                      clear hbit hcall hne
                      go_wp2_with fail
                      refine HC.out.mono ?_
                      clear HC
                      rintro e w9 ⟨rfl, rfl⟩
                      go_wp2_with fail
                      refine (unpin_yes h8 c4 HNE.out).mono ?_
                      rintro e w9 ⟨rfl, h9, o9⟩
                      change EpAt w9 b b K ⟨I + D, upd (pinsOf bt I M K) M (-1), fun _ => []⟩ _ at h9
                      rw [unpins_yes] at h9
                      have hb9 := bl_only hb8 o9 (by rintro k rfl; exact lo2)
                      go_wp2_with fail
                      go_roundw
                      case rel => exact ⟨M + 1, by omega, by simp, h9, hb9⟩
                      case measure => simp [intOf]; omega
                  · obtain rfl : M = K := by omega
                    clear c4
                    go_wp2_with fail
                    refine (now_any h8).mono ?_
                    rintro e w9 ⟨rfl, rfl⟩
                    go_wp2_with fail
                    refine (advance_yes h8 (by show I + D ≤ 1000000; omega) (blocked_no (fun i _ => .inl (if_neg (by omega))))).mono ?_
                    rintro e w9 ⟨rfl, h9, o9⟩
                    go_wp2_with fail
                    go_ret
                    exact ⟨rfl, bl_only hb8 o9 (by rintro k rfl; exact lo2)⟩
end Go.Proofs.Ytpklpomajioneaa
