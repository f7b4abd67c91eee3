/- Chapter 5: PredCounts. -/
import Derived.Test.YtjapgmaldfckkaaAcc
import Derived.Laws.Bits128
namespace Go.Proofs.Ytjapgmaldfckkaa
open Go.RowKit
set_option linter.unusedVariables false
set_option linter.unusedSimpArgs false

/-- The codes of all counts, added up. -/
def allOf : Nat → List CodeV
  | 0 => [⟨6, 0, ⟨#[]⟩, 0, 0⟩]
  | I + 1 => allOf I ++ [⟨8, 0, ⟨#[]⟩, 0, I⟩, ⟨1, 0, ⟨#[]⟩, 0, 0⟩]
def sumOf (ss : List (List Ev)) : Nat → Nat
  | 0 => 0
  | I + 1 => sumOf ss I + (ss.getD I []).length
theorem allOf_length (I : Nat) : (allOf I).length = 2 * I + 1 := by
  induction I with
  | zero => rfl
  | succ I ih => simp [allOf, ih]; omega
theorem sumOf_small {ss : List (List Ev)} (h : ∀ s ∈ ss, s.length ≤ 3) (I : Nat) : sumOf ss I ≤ 3 * I := by
  induction I with
  | zero => exact Nat.le_refl _
  | succ I ih =>
    have h1 := getD_small (Ends.refl ss) h I
    simp only [sumOf]
    omega
theorem run_all {ss : List (List Ev)} (h : ∀ s ∈ ss, s.length ≤ 3) (I : Nat) (hI : I ≤ 1000) : evalRun ss (allOf I) = ([(sumOf ss I : Int)], true) := by
  induction I with
  | zero => rfl
  | succ I ih =>
    have h0 := ih (by omega)
    have h1 := getD_small (Ends.refl ss) h I
    have h2 := sumOf_small h I
    unfold evalRun at h0 ⊢
    rw [allOf, List.foldl_append, h0]
    have e1 : evalOne ss ([(sumOf ss I : Int)], true) ⟨8, 0, ⟨#[]⟩, 0, I⟩ = ([(sumOf ss I : Int), ((ss.getD I []).length : Int)], true) := by
      simp [evalOne, setOf]
    have e2 : evalOne ss ([(sumOf ss I : Int), ((ss.getD I []).length : Int)], true) ⟨1, 0, ⟨#[]⟩, 0, 0⟩ = ([((sumOf ss (I + 1) : Nat) : Int)], true) := by
      simp only [evalOne, evalDo, doNum]
      simp [sumOf]
      rw [List.getD_eq_getElem?_getD] at h1
      exact IntWalk.wrap64_in _ (by omega)
    rw [List.foldl_cons, e1, List.foldl_cons, e2, List.foldl_nil]
theorem res_all {ss : List (List Ev)} (h : ∀ s ∈ ss, s.length ≤ 3) (I : Nat) (hI : I ≤ 1000) : evalRes ss (allOf I) = ((sumOf ss I : Int), true) := res_of_run (run_all h I hI)
theorem res_count (ss : List (List Ev)) (k : Int) : evalRes ss [⟨8, 0, ⟨#[]⟩, 0, k⟩] = (((setOf ss k).length : Int), true) := res_of_run (by simp [evalRun, evalOne])
theorem res_field (ss : List (List Ev)) (k f : Int) (h0 : 0 ≤ f) (h4 : f < 4) : evalRes ss [⟨7, 0, ⟨#[]⟩, f, k⟩] = if 0 < (setOf ss k).length then ((lastOf ss k).num f, true) else (0, false) := by
  split
  · rename_i h
    refine res_of_run ?_
    simp [evalRun, evalOne, h, h0, h4]
  · rename_i h
    simp [evalRes, evalRun, evalOne, h]
theorem and3 (n : Int) : bits .and .i64 n 3 = n % 4 := by
  have h : (BitVec.ofInt 64 n &&& BitVec.ofInt 64 3).toNat = (n % 4).toNat := by
    rw [BitVec.toNat_and, show (BitVec.ofInt 64 3).toNat = 2 ^ 2 - 1 by decide, Nat.and_two_pow_sub_one_eq_mod, BitVec.toNat_ofInt]
    omega
  show IntKind.i64.wrap ((BitVec.ofInt 64 n &&& BitVec.ofInt 64 3).toNat : Nat) = n % 4
  rw [h]
  rw [show (((n % 4).toNat : Nat) : Int) = n % 4 by omega]
  exact IntWalk.i64_in _ (by omega)

set_option maxHeartbeats 4000000 in
set_option maxRecDepth 100000 in
theorem counts_law (b : Option Addr) (m cap : Nat) (ns : List (List Int)) (at_ fd : Int) (w : World) (hn : RowAt (kSlice (kInt .i64) 8) 24 w b m ns) (ha : -9223372036854775808 ≤ at_ ∧ at_ ≤ 9223372036854775807) (hf : -9223372036854775808 ≤ fd ∧ fd ≤ 9223372036854775807) :
    Calls Try.prog 5 #[.slice b m cap, .int .i64 at_, .int .i64 fd] w fun e w' => e = .returned (.bool true) ∧ Below w.heap.size w w' := by
  have HN := Lib.hid hn
  have hsm := setsOf_small ns
  clear hn
  go_enter Try.func5, Try.ntmps5
  go_wp2_with fail
  refine (awake_any _).mono ?_
  rintro e w1 ⟨rfl, hb01⟩
  go_wp2_with fail
  refine (sets_any (rows_below HN.out hb01)).mono ?_
  rintro e w2 ⟨A, c, vs, rfl, hs, hb2⟩
  have hb02 := bl_then hb01 hb2
  obtain ⟨ss, hss⟩ : ∃ ss, setsOf ns = ss := ⟨_, rfl⟩
  rw [hss] at hs hsm
  obtain ⟨N, hN⟩ : ∃ N, ss.length = N := ⟨_, rfl⟩
  simp only [hss, hN]
  rw [hN] at hs hsm
  have hN4 := hsm.1
  have hSA := hs.at_ hN.symm
  have HSM := Lib.hid hsm.2
  have HS := Lib.hid hSA
  have hms : ∀ s ∈ ss, s.length ≤ 1000000 := fun s hs => Nat.le_trans (hsm.2 s hs) (by decide)
  have HMS := Lib.hid hms
  have HNN := Lib.hid hN
  clear hs hss hN hSA hsm hb2 hb01 hms
  have a0 := Acc.lit w2 (n := 1) [⟨6, 0, ⟨#[]⟩, 0, 0⟩] rfl (by decide) rfl
  have A0 := Lib.hid a0
  clear a0
  go_wp2_with fail
  go_loopw [9, 10, 11] (fun all many i wr => ∃ I M S : Nat, I ≤ N ∧ M ≤ 2 * I + 1 ∧ 2 * I + 1 ≤ M ∧ i = .int .i64 I ∧ many = .int .i64 S ∧ S ≤ 3 * I ∧ Hid (sumOf ss I = S) ∧ ∃ A c, all = .slice A M c ∧ Acc w2 wr (.slice A M c) M (allOf I)) (fun _ _ i _ => N - (intOf i).toNat)
  case atStart => exact ⟨0, 1, 0, Nat.zero_le _, by omega, by omega, rfl, rfl, by omega, Lib.hid rfl, _, _, rfl, A0.out⟩
  case round =>
    obtain ⟨I, M, S, hI, hM1, hM2, rfl, rfl, hS, HSU, A3, c3, rfl, hacc⟩ := hrel
    have HAC := Lib.hid hacc
    by_cases h1 : I < N
    · obtain ⟨b8, o8, rfl, hb8, hc8⟩ := HS.out.cells (by omega)
      obtain ⟨A9, c9, x9, _⟩ := hc8 I h1
      obtain ⟨L, hL⟩ : ∃ L, (ss.getD I []).length = L := ⟨_, rfl⟩
      have hL3 : L ≤ 3 := by rw [← hL]; exact getD_small (Ends.refl ss) HSM.out I
      rw [hL] at x9
      have HL := Lib.hid hL
      have s1 : IntKind.i64.wrap ((S : Int) + L) = ((S + L : Nat) : Int) := (IntWalk.i64_in _ (by omega)).trans (by omega)
      clear hc8 hL hacc
      go_wp2_with (at_builtin; refine wpList_append_codes w2 rfl (.tmp 31) (.tmp 35) rfl (HAC.out.alloc _) rfl (Reads.codes (Acc.lit wr (n := 2) [⟨8, 0, ⟨#[]⟩, 0, I⟩, ⟨1, 0, ⟨#[]⟩, 0, 0⟩] rfl (by decide) rfl)) rfl (by omega) (M + 2) (by omega) ?_; intro A6 c6 w6 acc6; have x6 := (acc6.bel.cell (p := ⟨b8, o8 + I, none⟩) hb8).trans x9)
      go_roundw
      case rel => exact ⟨I + 1, M + 2, S + L, by omega, by omega, by omega, by simp, by simp, by omega, Lib.hid (by simp only [sumOf]; rw [HSU.out, HL.out]), _, _, rfl, acc6⟩
      case measure => simp [intOf]; omega
    · obtain rfl : I = N := by omega
      clear h1
      have t1 := Int.tmod_lt_of_pos at_ (show (0:Int) < 7 by decide)
      have t2 := Int.lt_tmod_of_pos at_ (show (0:Int) < 7 by decide)
      go_wp2_with fail
      obtain ⟨k, hk⟩ : ∃ k, at_.tmod 7 % 7 - 1 = k := ⟨_, rfl⟩
      have k0 : -1 ≤ k := by omega
      have k1 : k ≤ 5 := by omega
      obtain ⟨F, hF⟩ : ∃ F : Nat, fd % 4 = F := ⟨(fd % 4).toNat, by omega⟩
      have hF4 : F < 4 := by omega
      simp only [hk, and3, hF]
      clear hk t1 t2 hF ha hf
      refine (eval_any hacc.at_ (HS.out.below hacc.bel) (by omega) (by omega) HMS.out).mono ?_
      rintro e w3 ⟨rfl, hb3⟩
      have hb23 := bl_then hacc.bel hb3
      simp only [res_all HSM.out I (by omega), HSU.out]
      clear hb3 hacc
      go_wp2_with fail
      have a4 := Acc.lit w3 (n := 1) [⟨8, 0, ⟨#[]⟩, 0, k⟩] rfl (by decide) rfl
      refine (eval_any a4.at_ (HS.out.below (bl_then hb23 a4.bel)) (by omega) (by omega) HMS.out).mono ?_
      rintro e w4 ⟨rfl, hb4⟩
      have hb24 := bl_then (bl_then hb23 a4.bel) hb4
      simp only [res_count]
      clear a4 hb4 hb23
      go_wp2_with fail
      have a5 := Acc.lit w4 (n := 1) [⟨7, 0, ⟨#[]⟩, F, k⟩] rfl (by decide) rfl
      refine (eval_any a5.at_ (HS.out.below (bl_then hb24 a5.bel)) (by omega) (by omega) HMS.out).mono ?_
      rintro e w5 ⟨rfl, hb5⟩
      have hb25 := bl_then (bl_then hb24 a5.bel) hb5
      simp only [res_field ss k F (by omega) (by omega)]
      clear a5 hb5 hb24
      have hb05 := bl_then hb02 hb25
      by_cases k2 : k < 0
      · have e1 : setOf ss k = [] := if_neg (by omega)
        rw [e1]
        go_wp2
        go_ret
        exact ⟨rfl, hb05⟩
      obtain ⟨k, rfl⟩ : ∃ K : Nat, k = K := ⟨k.toNat, by omega⟩
      by_cases k3 : I ≤ k
      · have e1 : setOf ss k = [] := by unfold setOf; rw [if_pos (by omega), List.getD_eq_getElem?_getD, List.getElem?_eq_none (by have := HNN.out; omega)]; rfl
        rw [e1]
        go_wp2
        go_ret
        exact ⟨rfl, hb05⟩
      have k4 : k < I := by omega
      have e1 : setOf ss k = ss.getD k [] := by unfold setOf; rw [if_pos (by omega)]; simp
      obtain ⟨b8, o8, rfl, hb8, hc8⟩ := HS.out.cells (by omega)
      obtain ⟨A9, c9, x9, hev⟩ := hc8 k k4
      have hL3 : (ss.getD k []).length ≤ 3 := getD_small (Ends.refl ss) HSM.out k
      have x5 := (hb25.cell (p := ⟨b8, o8 + k, none⟩) hb8).trans x9
      unfold lastOf
      simp only [e1]
      have hev := hev.below hb25
      generalize ss.getD k [] = s at *
      clear hc8 x9 e1 k3
      rcases Nat.eq_zero_or_pos s.length with h3 | h3
      · obtain rfl : s = [] := List.eq_nil_of_length_eq_zero h3
        simp only [List.length_nil] at x5
        go_wp2
        go_ret
        exact ⟨rfl, hb05⟩
      · obtain ⟨m1, hm1⟩ : ∃ m, s.length = m + 1 := ⟨s.length - 1, by omega⟩
        obtain ⟨b1, o1, rfl, hb1, hc1⟩ := hev.cells (by omega)
        have x := hc1 m1 (by omega) (2 + F) (by omega)
        have hg : s.getLastD Ev.zero = s.getD m1 Ev.zero := by
          rw [List.getD_eq_getElem?_getD, List.getElem?_eq_getElem (by omega), List.getLastD_eq_getLast?, List.getLast?_eq_getElem?, List.getElem?_eq_getElem (by omega)]
          simp [hm1]
        rw [hg, if_pos h3]
        generalize s.getD m1 Ev.zero = ev at *
        have hx : ev.cells[2 + F]? = some (.int .i64 (ev.num F)) := by
          have : F = 0 ∨ F = 1 ∨ F = 2 ∨ F = 3 := by omega
          rcases this with rfl | rfl | rfl | rfl <;> rfl
        rw [hx] at x
        generalize ev.num F = q at *
        generalize s.length = L at *
        have s1 : IntKind.i64.wrap ((L : Int) - 1) = (m1 : Int) := (IntWalk.i64_in _ (by omega)).trans (by omega)
        have d3 : ((L : Int) == 0) = false := by simp; omega
        have hmL : (m1 : Int) < L := by omega
        have HM1 := Lib.hid hm1
        clear hm1 hg hx hc1 hev
        have y : w5.cell? ⟨b1, o1 + m1 * 6 + 2 + F, none⟩ = some (.int .i64 q) := by rw [Nat.add_assoc (o1 + m1 * 6)]; exact x
        go_wp2_with fail
        go_quiet (fail)
        go_wp2
        go_ret
        exact ⟨rfl, bl_drewN hb05 _⟩
end Go.Proofs.Ytjapgmaldfckkaa
