import Derived.Test.YtebphjbfogpndaaPNumRingx1
import Derived.Deep.QuietTactic
import Derived.BigQuiet
namespace Go.Proofs.Ytebphjbfogpndaa
open Go.RowKit Go.Proofs.Ytebphjbfogpndaa.PNumRing Go.Proofs.YtebphjbfogpndaaW.PrintWords

theorem do_add (a b : Int) (w : World) : Calls Try.prog 11 #[.int .i64 1, .int .i64 a, .int .i64 b] w fun e w' => e = .returned (.tuple #[.int .i64 (wrap64 (a + b)), .bool true]) ∧ ∃ n, w' = w.drewN n :=
  (num_Do.calls 1 a b _ _ w (by simp [num_Do.f])).mono fun _ _ h => ⟨h.1, h.2.out⟩
theorem do_sub (a b : Int) (w : World) : Calls Try.prog 11 #[.int .i64 2, .int .i64 a, .int .i64 b] w fun e w' => e = .returned (.tuple #[.int .i64 (wrap64 (a + wrap64 (-b))), .bool true]) ∧ ∃ n, w' = w.drewN n :=
  (num_Do.calls 2 a b _ _ w (by simp [num_Do.f])).mono fun _ _ h => ⟨h.1, h.2.out⟩
theorem do_mul (a b : Int) (w : World) : Calls Try.prog 11 #[.int .i64 3, .int .i64 a, .int .i64 b] w fun e w' => e = .returned (.tuple #[.int .i64 (wrap64 (a * b)), .bool true]) ∧ ∃ n, w' = w.drewN n :=
  (num_Do.calls 3 a b _ _ w (by simp [num_Do.f])).mono fun _ _ h => ⟨h.1, h.2.out⟩
theorem awake_any (w : World) : Calls Try.prog 9 #[] w fun e w' => e = .returned (.bool true) ∧ ∃ n, w' = w.drewN n :=
  (sibyllaw01_awake.calls true w (by kernel_rfl)).mono fun _ _ h => ⟨h.1, h.2.out⟩

theorem mul_wrap (a t : Int) : wrap64 (a * wrap64 t) = wrap64 (a * t) := by
  have h : ∃ k, wrap64 t = t - 18446744073709551616 * k := ⟨(t + 9223372036854775808) / 18446744073709551616, by unfold wrap64; omega⟩
  obtain ⟨k, hk⟩ := h
  rw [hk, Int.mul_sub, ← Int.mul_assoc, Int.mul_comm a 18446744073709551616, Int.mul_assoc]
  generalize a * t = x
  generalize a * k = y
  unfold wrap64; omega

set_option maxHeartbeats 1000000 in
set_option maxRecDepth 100000 in
theorem ring_any (a b c : Int) (w : World) (ha : -9223372036854775808 ≤ a ∧ a ≤ 9223372036854775807) (_ : -9223372036854775808 ≤ b ∧ b ≤ 9223372036854775807) (_ : -9223372036854775808 ≤ c ∧ c ≤ 9223372036854775807) :
    Calls Try.prog 5 #[.agg #[.int .i64 a, .int .i64 b, .int .i64 c]] w fun e w' => e = .returned (.bool true) ∧ Below w.heap.size w w' := by
  have e1 : (wrap64 (a + b) == wrap64 (b + a)) = true := by rw [Int.add_comm]; simp
  have e2 : (wrap64 (wrap64 (a + b) + c) == wrap64 (a + wrap64 (b + c))) = true := by rw [beq_iff_eq]; unfold wrap64; omega
  have e3 : (wrap64 (wrap64 (a + b) + wrap64 (-b)) == a) = true := by rw [beq_iff_eq]; unfold wrap64; omega
  have e4 : (wrap64 (a * b) == wrap64 (b * a)) = true := by rw [Int.mul_comm]; simp
  have e5 : (wrap64 (a * wrap64 (b + c)) == wrap64 (wrap64 (a * b) + wrap64 (a * c))) = true := by
    rw [beq_iff_eq, mul_wrap, Int.mul_add]
    generalize a * b = x
    generalize a * c = y
    unfold wrap64; omega
  go_enter Try.func5, Try.ntmps5
  go_wp2_with (first | (go_at_call 9; refine (awake_any _).mono ?_; rintro e w' ⟨rfl, n, rfl⟩) | (go_at_call 11; first | ((with_reducible refine (do_add _ _ _).mono ?_); rintro e w' ⟨rfl, n, rfl⟩) | ((with_reducible refine (do_sub _ _ _).mono ?_); rintro e w' ⟨rfl, n, rfl⟩) | ((with_reducible refine (do_mul _ _ _).mono ?_); rintro e w' ⟨rfl, n, rfl⟩)))
  go_ret
  exact ⟨by first | rfl | simp [e5], by repeat (first | exact Below.refl _ _ | exact (Below.refl _ _).alloc (Nat.le_refl _) _ | exact pw_below_drewN (by assumption) _ | apply pw_below_drewN)⟩
end Go.Proofs.Ytebphjbfogpndaa
