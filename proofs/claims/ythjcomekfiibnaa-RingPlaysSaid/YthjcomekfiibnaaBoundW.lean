/- The law RingBound: its walk. -/
import Derived.Test.YthjcomekfiibnaaSame10
import Derived.Test.YthjcomekfiibnaaRead
import Derived.StillTailTactics
namespace Go.Proofs.Ythjcomekfiibnaa
open Go.RowKit
set_option linter.unusedVariables false

theorem low_same {w : World} {R B n : Nat} {low : Int} {ps : List (Int × Bool)} (h : RingAt w R B n low ps) :
    Calls Try.prog 18 #[.pointer (some ⟨R, 0, none⟩)] w fun e w' => e = .returned (.int .i64 low) ∧ w' = w := by
  have c1 := h.c1
  go_enter Try.func18, Try.ntmps18
  go_wp2
  go_ret
  exact ⟨rfl, rfl⟩
theorem rest_same (x n : Int) (w : World) (hn : 0 < n) (h2 : n ≤ 4611686018427387904) :
    Calls Try.prog 8 #[.int .i64 x, .int .i64 n] w fun e w' => e = .returned (.int .i64 (x % n)) ∧ w' = w :=
  (rest_any x n w hn h2).mono fun e w' ⟨h, h'⟩ => ⟨h, h'.symm⟩

theorem items_pairs {w : World} {R B n : Nat} {low : Int} {ps : List (Int × Bool)} (h : RingAt w R B n low ps) :
    Calls Try.prog 17 #[.pointer (some ⟨R, 0, none⟩)] w fun e W' => ∃ a c, e = .returned (.slice a (ringTo ps low n).length c) ∧ PairsAt W' w.heap.size a (ringTo ps low n).length (ringTo ps low n) ∧ Below w.heap.size w W' :=
  (items_any h).mono fun e W' ⟨v, he, ho, hb⟩ => by
    obtain ⟨a, c, rfl, hp⟩ := PairsAt.of_own ho
    exact ⟨a, c, he, hp, hb⟩

set_option maxHeartbeats 4000000 in
set_option maxRecDepth 100000 in
theorem bound_law (size : Int) (a : Option Addr) (len cap : Nat) (l : List (Int × Int × Int)) (w : World) (_ : -9223372036854775808 ≤ size ∧ size ≤ 9223372036854775807) (hrow : RowAt (kPair (kInt .i64) (kPair (kInt .i64) (kInt .i64))) 24 w a len l) :
    Calls Try.prog 5 #[.int .i64 size, .slice a len cap] w fun e w' => e = .returned (.bool true) ∧ Below w.heap.size w w' := by
  obtain ⟨n, hn⟩ : ∃ n : Nat, 1 + size % 9 = (n : Int) := ⟨(1 + size % 9).toNat, by omega⟩
  have n1 : 1 ≤ n := by omega
  have n2 : n ≤ 9 := by omega
  have hx := hrow.acts
  clear hrow
  have hlen := hx.small
  have HX := Lib.hid hx
  have HN := Lib.hid hn
  clear hx
  have b1 : 0 ≤ size % 9 := by omega
  have b2 : size % 9 ≤ 8 := by omega
  clear hn
  go_enter Try.func5, Try.ntmps5
  go_wp2_with fail
  refine (awake_any _).mono ?_
  rintro e w1 ⟨rfl, hb1⟩
  go_wp2_with fail
  refine (rest_any _ _ _ (by decide) (by decide)).mono ?_
  rintro e w' ⟨rfl, rfl⟩
  go_wp2_with fail
  rw [HN.out]
  refine (new_yes n _ (by omega) (by omega)).mono ?_
  rintro e w2 ⟨rfl, hr2, hb2, hz2⟩
  have hb3 := bl_then hb1 hb2
  obtain ⟨R, hR⟩ : ∃ R, R = w1.heap.size + 1 := ⟨_, rfl⟩
  obtain ⟨B, hB⟩ : ∃ B, B = w1.heap.size := ⟨_, rfl⟩
  have hs1 := hb1.size
  rw [← hR, ← hB] at hr2
  rw [← hR]
  have hRw : w.heap.size ≤ R := by omega
  have hBw : w.heap.size ≤ B := by omega
  clear hz2 hb2 hR hB hs1
  go_wp2_with fail
  go_loopw [8] (fun i wr => ∃ I : Nat, I ≤ len ∧ I ≤ 60 ∧ i = .int .i64 I ∧ Below w.heap.size w wr ∧ ∃ low ps, RingAt wr R B n low ps) (fun i _ => len - (intOf i).toNat)
  case atStart => exact ⟨0, Nat.zero_le _, by omega, rfl, hb3, _, _, hr2⟩
  case round =>
    obtain ⟨I, hI, hI2, rfl, hb, low, ps, hr⟩ := hrel
    clear hb3 hr2 hb1
    by_cases h1 : I < len ∧ I < 60
    · obtain ⟨h1, h2⟩ := h1
      obtain ⟨b, off, k, at_, x, rfl, _, ⟨hk, hat, hxx⟩, hcs⟩ := HX.out.at_ h1
      obtain ⟨c0, c1, c2⟩ := hcs _ hb
      clear hcs
      go_wp2_with fail
      have hrs : RingAt (wr.alloc (.cells #[.int .i64 k, .int .i64 at_, .int .i64 x] 32)) R B n low ps := hr.kept (S := fun _ => False) ((Only.refl _ _).alloc _) id id
      refine (items_pairs hrs).mono ?_
      rintro e w3 ⟨a1, c1', rfl, hp3, hbl3⟩
      have hb3 := bl_then (bl_alloc hb _) hbl3
      have hr3 : RingAt w3 R B n low ps := hrs.kept (S := fun _ => False) (Only.of_below hbl3) id id
      have hsb : w3.heap[wr.heap.size]? = some (.cells #[.int .i64 k, .int .i64 at_, .int .i64 x] 32 (0, 0)) := (hbl3.block _ (by simp)).trans (alloc_new wr _)
      have lR := block_lt hr.hR
      have lB := block_lt hr.hB
      rw [World.size_alloc] at hp3
      obtain ⟨bs, hbs⟩ : ∃ bs, wr.heap.size = bs := ⟨_, rfl⟩
      rw [hbs] at hp3 hsb lR lB
      rw [hbs]
      have hlim1 : (ringTo ps low n).length ≤ n := ringTo_length _ _ _
      have l0 := hr.low0
      have l1 := hr.low1
      clear hbl3 hrs hr hb c0 c1 c2 hbs
      have c0 : w3.cell? ⟨bs, 0, none⟩ = some (.int .i64 k) := by simp [World.cell?, hsb]
      have c1 : w3.cell? ⟨bs, 1, none⟩ = some (.int .i64 at_) := by simp [World.cell?, hsb]
      have c2 : w3.cell? ⟨bs, 2, none⟩ = some (.int .i64 x) := by simp [World.cell?, hsb]
      clear hsb
      go_wp2_with fail
      refine (rest_any _ _ _ (by decide) (by decide)).mono ?_
      rintro e w' ⟨rfl, rfl⟩
      by_cases hk2 : k % 4 = 2
      · rw [hk2]
        clear hk2
        go_wp2_with fail
        cases hd : ringDrops ps low
        · refine (drop_to hr3 false hd 0 rfl low rfl ps rfl).mono ?_
          rintro e w6 ⟨rfl, hr6, ho6, _⟩
          have hb6 := bl_only hb3 ho6 (by rintro i (rfl | rfl) <;> omega)
          have hq6 := hp3.kept ho6 (by rintro i (rfl | rfl) <;> omega)
          clear ho6 hb3 hp3 hr3 c0 c1 c2 hd
          have hbc := hb6
          have hw7 := hr6.hR
          clear hw7
          go_wp2_with fail
          refine (items_pairs hr6).mono ?_
          rintro e w7 ⟨a2, c2, rfl, hp7, hbl7⟩
          have hb7 := bl_then hb6 hbl7
          have hr7 : RingAt w7 R B n low ps := hr6.kept (S := fun _ => False) (Only.of_below hbl7) id id
          have hq7 := hq6.kept (S := fun _ => False) (Only.of_below hbl7) (fun _ h => h.elim)
          have hlim : (ringTo ps low n).length ≤ n := ringTo_length _ _ _
          clear hbl7 hb6 hr6 hq6 hbc
          go_wp2_with fail
          refine (len_any hr7).mono ?_
          rintro e w8 ⟨rfl, hbl8⟩
          have hb8 := bl_then hb7 hbl8
          have hr8 : RingAt w8 R B n low ps := hr7.kept (S := fun _ => False) (Only.of_below hbl8) id id
          have hq8 := hq7.kept (S := fun _ => False) (Only.of_below hbl8) (fun _ h => h.elim)
          have hp8 := hp7.kept (S := fun _ => False) (Only.of_below hbl8) (fun _ h => h.elim)
          clear hbl8 hb7 hr7 hq7 hp7
          go_wp2_with fail
          refine (same_any _ _ _ _ _ _ _ _ _ _ _ hq8 hp8 (by omega) (by omega)).mono ?_
          rintro e w9 ⟨rfl, j8, rfl⟩
          have hb8 := bl_drewN hb8 j8
          have hr8 := hr8.drewN j8
          have hp8 := hp8.kept (S := fun _ => False) ((Only.refl _ _).drewN j8) (fun _ h => h.elim)
          generalize w8.drewN j8 = w8 at *
          go_wp2_with fail
          have hall := tells_view hr8
          generalize ringTo ps low n = L2 at *
          have HA := Lib.hid hall
          have l0 := hr8.low0
          have l1 := hr8.low1
          clear hall hq8
          obtain ⟨wo, rfl⟩ : ∃ wo : World, wo = wr := ⟨_, rfl⟩
          go_loopw [13] (fun i wr => ∃ K : Nat, K ≤ L2.length ∧ i = .int .i64 K ∧ Below w.heap.size w wr ∧ RingAt wr R B n low ps ∧ PairsAt wr w6.heap.size a2 L2.length L2) (fun i _ => L2.length - (intOf i).toNat)
          case atStart => exact ⟨0, Nat.zero_le _, rfl, hb8, hr8, hp8⟩
          case round =>
            obtain ⟨K, hK, rfl, hb9, hr9, hp9⟩ := hrel
            clear hb8 hr8 hp8
            by_cases h3 : K < L2.length
            · obtain ⟨hlo, hhi, hup⟩ := HA.out K h3
              have HP := Lib.hid hp9
              obtain ⟨b2, o2, rfl, _, _, hcs⟩ := hp9.cells (by omega)
              clear hp9
              obtain ⟨x1, _⟩ := hcs K h3
              have hK0 : (K : Int) < L2.length := by omega
              have s1 : IntKind.i64.wrap (low + n) = low + n := IntWalk.i64_in _ (by omega)
              generalize hp : (L2.getD K (0, 0)).1 = p at *
              have d1 : decide (p < low) = false := decide_eq_false (by omega)
              have d2 : decide (low + n ≤ p) = false := decide_eq_false (by omega)
              rcases Nat.eq_zero_or_pos K with hz | hpos
              · have d4 : decide ((0:Int) < (K : Int)) = false := decide_eq_false (by omega)
                have d5 : decide (0 < K) = false := decide_eq_false (by omega)
                have d6 : ¬ (0 < K) := by omega
                clear hup hcs hz hp
                go_wp2_with fail
                go_quiet ((go_at_call 18; exact Calls.quiet_of_same (low_same (hr9.drewN _))))
                go_wp2
                go_roundw
                case rel => exact ⟨K + 1, by omega, by simp, bl_drewN hb9 _, hr9.drewN _, HP.out.kept (S := fun _ => False) ((Only.refl _ _).drewN _) (fun _ h => h.elim)⟩
                case measure => simp [intOf]; omega
              · obtain ⟨J, hJ⟩ : ∃ J, K = J + 1 := ⟨K - 1, by omega⟩
                obtain ⟨y1, _⟩ := hcs J (by omega)
                have hup := hup J hJ
                generalize (L2.getD J (0, 0)).1 = p' at *
                clear hcs hp
                have d3 : decide (p ≤ p') = false := decide_eq_false (by omega)
                have d4 : decide ((0:Int) < (K : Int)) = true := decide_eq_true (by omega)
                have s2 : IntKind.i64.wrap ((K : Int) - 1) = (J : Int) := (IntWalk.i64_in _ (by omega)).trans (by omega)
                have hJ0 : (J : Int) < L2.length := by omega
                clear hJ
                go_wp2_with fail
                go_quiet ((go_at_call 18; exact Calls.quiet_of_same (low_same (hr9.drewN _))))
                go_wp2
                go_roundw
                case rel => exact ⟨K + 1, by omega, by simp, bl_drewN hb9 _, hr9.drewN _, HP.out.kept (S := fun _ => False) ((Only.refl _ _).drewN _) (fun _ h => h.elim)⟩
                case measure => simp [intOf]; omega
            · obtain rfl : L2.length = K := by omega
              clear h3 HA hp9
              go_wp2_with fail
              go_roundw
              case rel => exact ⟨I + 1, by omega, by omega, by simp, hb9, _, _, hr9⟩
              case measure => simp [intOf]; omega
        · refine (drop_to hr3 true hd _ rfl _ rfl _ rfl).mono ?_
          rintro e w6 ⟨rfl, hr6, ho6, _⟩
          have hb6 := bl_only hb3 ho6 (by rintro i (rfl | rfl) <;> omega)
          have hq6 := hp3.kept ho6 (by rintro i (rfl | rfl) <;> omega)
          simp only [if_true] at hr6
          clear ho6 hb3 hp3 hr3 c0 c1 c2 hd
          have hbc := hb6
          have hw7 := hr6.hR
          clear hw7
          go_wp2_with fail
          refine (items_pairs hr6).mono ?_
          rintro e w7 ⟨a2, c2, rfl, hp7, hbl7⟩
          have hb7 := bl_then hb6 hbl7
          have hr7 : RingAt w7 R B n (low + 1) (ringDrop ps low) := hr6.kept (S := fun _ => False) (Only.of_below hbl7) id id
          have hq7 := hq6.kept (S := fun _ => False) (Only.of_below hbl7) (fun _ h => h.elim)
          have hlim : (ringTo (ringDrop ps low) (low + 1) n).length ≤ n := ringTo_length _ _ _
          clear hbl7 hb6 hr6 hq6 hbc
          go_wp2_with fail
          refine (len_any hr7).mono ?_
          rintro e w8 ⟨rfl, hbl8⟩
          have hb8 := bl_then hb7 hbl8
          have hr8 : RingAt w8 R B n (low + 1) (ringDrop ps low) := hr7.kept (S := fun _ => False) (Only.of_below hbl8) id id
          have hq8 := hq7.kept (S := fun _ => False) (Only.of_below hbl8) (fun _ h => h.elim)
          have hp8 := hp7.kept (S := fun _ => False) (Only.of_below hbl8) (fun _ h => h.elim)
          clear hbl8 hb7 hr7 hq7 hp7
          go_wp2_with fail
          have hall := tells_view hr8
          generalize ringTo (ringDrop ps low) (low + 1) n = L2 at *
          have HA := Lib.hid hall
          have l0 := hr8.low0
          have l1 := hr8.low1
          clear hall hq8
          obtain ⟨wo, rfl⟩ : ∃ wo : World, wo = wr := ⟨_, rfl⟩
          go_loopw [13] (fun i wr => ∃ K : Nat, K ≤ L2.length ∧ i = .int .i64 K ∧ Below w.heap.size w wr ∧ RingAt wr R B n (low + 1) (ringDrop ps low) ∧ PairsAt wr w6.heap.size a2 L2.length L2) (fun i _ => L2.length - (intOf i).toNat)
          case atStart => exact ⟨0, Nat.zero_le _, rfl, hb8, hr8, hp8⟩
          case round =>
            obtain ⟨K, hK, rfl, hb9, hr9, hp9⟩ := hrel
            clear hb8 hr8 hp8
            by_cases h3 : K < L2.length
            · obtain ⟨hlo, hhi, hup⟩ := HA.out K h3
              have HP := Lib.hid hp9
              obtain ⟨b2, o2, rfl, _, _, hcs⟩ := hp9.cells (by omega)
              clear hp9
              obtain ⟨x1, _⟩ := hcs K h3
              have hK0 : (K : Int) < L2.length := by omega
              have s1 : IntKind.i64.wrap ((low + 1) + n) = (low + 1) + n := IntWalk.i64_in _ (by omega)
              generalize hp : (L2.getD K (0, 0)).1 = p at *
              have d1 : decide (p < (low + 1)) = false := decide_eq_false (by omega)
              have d2 : decide ((low + 1) + n ≤ p) = false := decide_eq_false (by omega)
              rcases Nat.eq_zero_or_pos K with hz | hpos
              · have d4 : decide ((0:Int) < (K : Int)) = false := decide_eq_false (by omega)
                have d5 : decide (0 < K) = false := decide_eq_false (by omega)
                have d6 : ¬ (0 < K) := by omega
                clear hup hcs hz hp
                go_wp2_with fail
                go_quiet ((go_at_call 18; exact Calls.quiet_of_same (low_same (hr9.drewN _))))
                go_wp2
                go_roundw
                case rel => exact ⟨K + 1, by omega, by simp, bl_drewN hb9 _, hr9.drewN _, HP.out.kept (S := fun _ => False) ((Only.refl _ _).drewN _) (fun _ h => h.elim)⟩
                case measure => simp [intOf]; omega
              · obtain ⟨J, hJ⟩ : ∃ J, K = J + 1 := ⟨K - 1, by omega⟩
                obtain ⟨y1, _⟩ := hcs J (by omega)
                have hup := hup J hJ
                generalize (L2.getD J (0, 0)).1 = p' at *
                clear hcs hp
                have d3 : decide (p ≤ p') = false := decide_eq_false (by omega)
                have d4 : decide ((0:Int) < (K : Int)) = true := decide_eq_true (by omega)
                have s2 : IntKind.i64.wrap ((K : Int) - 1) = (J : Int) := (IntWalk.i64_in _ (by omega)).trans (by omega)
                have hJ0 : (J : Int) < L2.length := by omega
                clear hJ
                go_wp2_with fail
                go_quiet ((go_at_call 18; exact Calls.quiet_of_same (low_same (hr9.drewN _))))
                go_wp2
                go_roundw
                case rel => exact ⟨K + 1, by omega, by simp, bl_drewN hb9 _, hr9.drewN _, HP.out.kept (S := fun _ => False) ((Only.refl _ _).drewN _) (fun _ h => h.elim)⟩
                case measure => simp [intOf]; omega
            · obtain rfl : L2.length = K := by omega
              clear h3 HA hp9
              go_wp2_with fail
              go_roundw
              case rel => exact ⟨I + 1, by omega, by omega, by simp, hb9, _, _, hr9⟩
              case measure => simp [intOf]; omega
      · have hk3 : (k % 4 == 2) = false := by simpa using hk2
        have t1 : 0 ≤ at_ % 14 := by omega
        have t2 : at_ % 14 < 14 := by omega
        have s1 : IntKind.i64.wrap (low + at_ % 14) = low + at_ % 14 := IntWalk.i64_in _ (by omega)
        have s2 : IntKind.i64.wrap (low + at_ % 14 - 3) = low + at_ % 14 - 3 := IntWalk.i64_in _ (by omega)
        clear hk2
        go_wp2_with fail
        refine wp_region_still_tail 10 (by kernel_rfl) (by kernel_rfl) ?_
        simp only [List.take_succ_cons, List.take_zero, List.drop_succ_cons, List.drop_zero]
        repeat still_step
        still_call (low_same (hr3.drewN _))
        repeat still_step
        still_call (rest_same at_ 14 _ (by decide) (by decide))
        repeat still_step
        refine wpStill_nil ?_
        change wpList _ _ _ _ _ w3.drew
        have hb4 := bl_drew hb3
        have hr4 : RingAt w3.drew R B n low ps := hr3.drewN 1
        have hp4 := hp3.kept (S := fun _ => False) ((Only.refl _ _).drewN 1) (fun _ h => h.elim)
        change PairsAt w3.drew _ _ _ _ at hp4
        generalize w3.drew = w4 at *
        clear hb3 hr3 hp3 c0 c1 c2
        go_wp2_with fail
        cases hok : ringOk ps low (low + at_ % 14 - 3)
        · refine (put_to hr4 x _ (by omega) false hok ps rfl).mono ?_
          rintro e w6 ⟨rfl, hr6, ho6, _⟩
          have hb6 := bl_only hb4 ho6 (by rintro i (rfl | rfl) <;> omega)
          have hq6 := hp4.kept ho6 (by rintro i (rfl | rfl) <;> omega)
          clear ho6 hb4 hp4 hr4 hok
          have hbc := hb6
          have hw7 := hr6.hR
          clear hw7
          go_wp2_with fail
          refine (items_pairs hr6).mono ?_
          rintro e w7 ⟨a2, c2, rfl, hp7, hbl7⟩
          have hb7 := bl_then hb6 hbl7
          have hr7 : RingAt w7 R B n low ps := hr6.kept (S := fun _ => False) (Only.of_below hbl7) id id
          have hq7 := hq6.kept (S := fun _ => False) (Only.of_below hbl7) (fun _ h => h.elim)
          have hlim : (ringTo ps low n).length ≤ n := ringTo_length _ _ _
          clear hbl7 hb6 hr6 hq6 hbc
          go_wp2_with fail
          refine (len_any hr7).mono ?_
          rintro e w8 ⟨rfl, hbl8⟩
          have hb8 := bl_then hb7 hbl8
          have hr8 : RingAt w8 R B n low ps := hr7.kept (S := fun _ => False) (Only.of_below hbl8) id id
          have hq8 := hq7.kept (S := fun _ => False) (Only.of_below hbl8) (fun _ h => h.elim)
          have hp8 := hp7.kept (S := fun _ => False) (Only.of_below hbl8) (fun _ h => h.elim)
          clear hbl8 hb7 hr7 hq7 hp7
          go_wp2_with fail
          refine (same_any _ _ _ _ _ _ _ _ _ _ _ hq8 hp8 (by omega) (by omega)).mono ?_
          rintro e w9 ⟨rfl, j8, rfl⟩
          have hb8 := bl_drewN hb8 j8
          have hr8 := hr8.drewN j8
          have hp8 := hp8.kept (S := fun _ => False) ((Only.refl _ _).drewN j8) (fun _ h => h.elim)
          generalize w8.drewN j8 = w8 at *
          go_wp2_with fail
          have hall := tells_view hr8
          generalize ringTo ps low n = L2 at *
          have HA := Lib.hid hall
          have l0 := hr8.low0
          have l1 := hr8.low1
          clear hall hq8
          obtain ⟨wo, rfl⟩ : ∃ wo : World, wo = wr := ⟨_, rfl⟩
          go_loopw [13] (fun i wr => ∃ K : Nat, K ≤ L2.length ∧ i = .int .i64 K ∧ Below w.heap.size w wr ∧ RingAt wr R B n low ps ∧ PairsAt wr w6.heap.size a2 L2.length L2) (fun i _ => L2.length - (intOf i).toNat)
          case atStart => exact ⟨0, Nat.zero_le _, rfl, hb8, hr8, hp8⟩
          case round =>
            obtain ⟨K, hK, rfl, hb9, hr9, hp9⟩ := hrel
            clear hb8 hr8 hp8
            by_cases h3 : K < L2.length
            · obtain ⟨hlo, hhi, hup⟩ := HA.out K h3
              have HP := Lib.hid hp9
              obtain ⟨b2, o2, rfl, _, _, hcs⟩ := hp9.cells (by omega)
              clear hp9
              obtain ⟨x1, _⟩ := hcs K h3
              have hK0 : (K : Int) < L2.length := by omega
              have s1 : IntKind.i64.wrap (low + n) = low + n := IntWalk.i64_in _ (by omega)
              generalize hp : (L2.getD K (0, 0)).1 = p at *
              have d1 : decide (p < low) = false := decide_eq_false (by omega)
              have d2 : decide (low + n ≤ p) = false := decide_eq_false (by omega)
              rcases Nat.eq_zero_or_pos K with hz | hpos
              · have d4 : decide ((0:Int) < (K : Int)) = false := decide_eq_false (by omega)
                have d5 : decide (0 < K) = false := decide_eq_false (by omega)
                have d6 : ¬ (0 < K) := by omega
                clear hup hcs hz hp
                go_wp2_with fail
                go_quiet ((go_at_call 18; exact Calls.quiet_of_same (low_same (hr9.drewN _))))
                go_wp2
                go_roundw
                case rel => exact ⟨K + 1, by omega, by simp, bl_drewN hb9 _, hr9.drewN _, HP.out.kept (S := fun _ => False) ((Only.refl _ _).drewN _) (fun _ h => h.elim)⟩
                case measure => simp [intOf]; omega
              · obtain ⟨J, hJ⟩ : ∃ J, K = J + 1 := ⟨K - 1, by omega⟩
                obtain ⟨y1, _⟩ := hcs J (by omega)
                have hup := hup J hJ
                generalize (L2.getD J (0, 0)).1 = p' at *
                clear hcs hp
                have d3 : decide (p ≤ p') = false := decide_eq_false (by omega)
                have d4 : decide ((0:Int) < (K : Int)) = true := decide_eq_true (by omega)
                have s2 : IntKind.i64.wrap ((K : Int) - 1) = (J : Int) := (IntWalk.i64_in _ (by omega)).trans (by omega)
                have hJ0 : (J : Int) < L2.length := by omega
                clear hJ
                go_wp2_with fail
                go_quiet ((go_at_call 18; exact Calls.quiet_of_same (low_same (hr9.drewN _))))
                go_wp2
                go_roundw
                case rel => exact ⟨K + 1, by omega, by simp, bl_drewN hb9 _, hr9.drewN _, HP.out.kept (S := fun _ => False) ((Only.refl _ _).drewN _) (fun _ h => h.elim)⟩
                case measure => simp [intOf]; omega
            · obtain rfl : L2.length = K := by omega
              clear h3 HA hp9
              go_wp2_with fail
              go_roundw
              case rel => exact ⟨I + 1, by omega, by omega, by simp, hb9, _, _, hr9⟩
              case measure => simp [intOf]; omega
        · refine (put_to hr4 x _ (by omega) true hok _ rfl).mono ?_
          rintro e w6 ⟨rfl, hr6, ho6, _⟩
          have hb6 := bl_only hb4 ho6 (by rintro i (rfl | rfl) <;> omega)
          have hq6 := hp4.kept ho6 (by rintro i (rfl | rfl) <;> omega)
          simp only [if_true] at hr6
          clear ho6 hb4 hp4 hr4 hok
          have hbc := hb6
          have hw7 := hr6.hR
          clear hw7
          go_wp2_with fail
          refine (items_pairs hr6).mono ?_
          rintro e w7 ⟨a2, c2, rfl, hp7, hbl7⟩
          have hb7 := bl_then hb6 hbl7
          have hr7 : RingAt w7 R B n low (ringPut ps (low + at_ % 14 - 3) x) := hr6.kept (S := fun _ => False) (Only.of_below hbl7) id id
          have hq7 := hq6.kept (S := fun _ => False) (Only.of_below hbl7) (fun _ h => h.elim)
          have hlim : (ringTo (ringPut ps (low + at_ % 14 - 3) x) low n).length ≤ n := ringTo_length _ _ _
          clear hbl7 hb6 hr6 hq6 hbc
          go_wp2_with fail
          refine (len_any hr7).mono ?_
          rintro e w8 ⟨rfl, hbl8⟩
          have hb8 := bl_then hb7 hbl8
          have hr8 : RingAt w8 R B n low (ringPut ps (low + at_ % 14 - 3) x) := hr7.kept (S := fun _ => False) (Only.of_below hbl8) id id
          have hq8 := hq7.kept (S := fun _ => False) (Only.of_below hbl8) (fun _ h => h.elim)
          have hp8 := hp7.kept (S := fun _ => False) (Only.of_below hbl8) (fun _ h => h.elim)
          clear hbl8 hb7 hr7 hq7 hp7
          go_wp2_with fail
          have hall := tells_view hr8
          generalize ringTo (ringPut ps (low + at_ % 14 - 3) x) low n = L2 at *
          have HA := Lib.hid hall
          have l0 := hr8.low0
          have l1 := hr8.low1
          clear hall hq8
          obtain ⟨wo, rfl⟩ : ∃ wo : World, wo = wr := ⟨_, rfl⟩
          go_loopw [13] (fun i wr => ∃ K : Nat, K ≤ L2.length ∧ i = .int .i64 K ∧ Below w.heap.size w wr ∧ RingAt wr R B n low (ringPut ps (low + at_ % 14 - 3) x) ∧ PairsAt wr w6.heap.size a2 L2.length L2) (fun i _ => L2.length - (intOf i).toNat)
          case atStart => exact ⟨0, Nat.zero_le _, rfl, hb8, hr8, hp8⟩
          case round =>
            obtain ⟨K, hK, rfl, hb9, hr9, hp9⟩ := hrel
            clear hb8 hr8 hp8
            by_cases h3 : K < L2.length
            · obtain ⟨hlo, hhi, hup⟩ := HA.out K h3
              have HP := Lib.hid hp9
              obtain ⟨b2, o2, rfl, _, _, hcs⟩ := hp9.cells (by omega)
              clear hp9
              obtain ⟨x1, _⟩ := hcs K h3
              have hK0 : (K : Int) < L2.length := by omega
              have s1 : IntKind.i64.wrap (low + n) = low + n := IntWalk.i64_in _ (by omega)
              generalize hp : (L2.getD K (0, 0)).1 = p at *
              have d1 : decide (p < low) = false := decide_eq_false (by omega)
              have d2 : decide (low + n ≤ p) = false := decide_eq_false (by omega)
              rcases Nat.eq_zero_or_pos K with hz | hpos
              · have d4 : decide ((0:Int) < (K : Int)) = false := decide_eq_false (by omega)
                have d5 : decide (0 < K) = false := decide_eq_false (by omega)
                have d6 : ¬ (0 < K) := by omega
                clear hup hcs hz hp
                go_wp2_with fail
                go_quiet ((go_at_call 18; exact Calls.quiet_of_same (low_same (hr9.drewN _))))
                go_wp2
                go_roundw
                case rel => exact ⟨K + 1, by omega, by simp, bl_drewN hb9 _, hr9.drewN _, HP.out.kept (S := fun _ => False) ((Only.refl _ _).drewN _) (fun _ h => h.elim)⟩
                case measure => simp [intOf]; omega
              · obtain ⟨J, hJ⟩ : ∃ J, K = J + 1 := ⟨K - 1, by omega⟩
                obtain ⟨y1, _⟩ := hcs J (by omega)
                have hup := hup J hJ
                generalize (L2.getD J (0, 0)).1 = p' at *
                clear hcs hp
                have d3 : decide (p ≤ p') = false := decide_eq_false (by omega)
                have d4 : decide ((0:Int) < (K : Int)) = true := decide_eq_true (by omega)
                have s2 : IntKind.i64.wrap ((K : Int) - 1) = (J : Int) := (IntWalk.i64_in _ (by omega)).trans (by omega)
                have hJ0 : (J : Int) < L2.length := by omega
                clear hJ
                go_wp2_with fail
                go_quiet ((go_at_call 18; exact Calls.quiet_of_same (low_same (hr9.drewN _))))
                go_wp2
                go_roundw
                case rel => exact ⟨K + 1, by omega, by simp, bl_drewN hb9 _, hr9.drewN _, HP.out.kept (S := fun _ => False) ((Only.refl _ _).drewN _) (fun _ h => h.elim)⟩
                case measure => simp [intOf]; omega
            · obtain rfl : L2.length = K := by omega
              clear h3 HA hp9
              go_wp2_with fail
              go_roundw
              case rel => exact ⟨I + 1, by omega, by omega, by simp, hb9, _, _, hr9⟩
              case measure => simp [intOf]; omega
    · have hcase : (len : Int) ≤ I ∨ (I : Int) < len ∧ (60 : Int) ≤ I := by omega
      clear h1
      rcases hcase with h1 | ⟨h1, h2⟩
      all_goals
        go_wp2_with fail
        go_ret
        exact ⟨rfl, hb⟩
end Go.Proofs.Ythjcomekfiibnaa
