/- The helpers of chapter 10's laws: the example, the rest of a division. -/
import Derived.Test.YthjcomekfiibnaaRingS
import Derived.Test.YthjcomekfiibnaaItems
namespace Go.Proofs.Ythjcomekfiibnaa
open Go.RowKit
set_option linter.unusedVariables false

theorem rest_eq (x n : Int) : (x.tmod n + n) % n = x % n := by
  rw [Int.add_emod_right, Int.tmod_def, Int.sub_mul_emod_self_left]
theorem rest_any (x n : Int) (w : World) (hn : 0 < n) (h2 : n ≤ 4611686018427387904) :
    Calls Try.prog 8 #[.int .i64 x, .int .i64 n] w fun e w' => e = .returned (.int .i64 (x % n)) ∧ w = w' := by
  have h3 := Int.tmod_lt_of_pos x hn
  have h4 := Int.lt_tmod_of_pos x hn
  have hz : (n == 0) = false := by simp; omega
  rw [← rest_eq]
  go_enter Try.func8, Try.ntmps8
  go_wp2
  go_ret
  exact ⟨rfl, rfl⟩

theorem awake_any (w : World) :
    Calls Try.prog 7 #[] w fun e w' => e = .returned (.bool true) ∧ Below w.heap.size w w' := by
  go_enter Try.func7, Try.ntmps7
  go_wp2_with fail
  refine (RS.new_yes 2 _ (by decide) (by decide)).mono ?_
  rintro e w1 ⟨rfl, h1, b1, z1⟩
  go_wp2_with fail
  refine (RS.put_to h1 _ _ (by decide) true (by kernel_rfl) [(⟨#[]⟩, false), (⟨#[98]⟩, true)] (by kernel_rfl)).mono ?_
  rintro e w2 ⟨rfl, h2, o2, z2⟩
  go_wp2_with fail
  refine (RS.put_to h2 _ _ (by decide) false (by kernel_rfl) [(⟨#[]⟩, false), (⟨#[98]⟩, true)] (by kernel_rfl)).mono ?_
  rintro e w3 ⟨rfl, h3, o3, z3⟩
  go_wp2_with fail
  refine (RS.drop_to h3 false (by kernel_rfl) ⟨#[]⟩ (by kernel_rfl) 0 (by kernel_rfl) [(⟨#[]⟩, false), (⟨#[98]⟩, true)] (by kernel_rfl)).mono ?_
  rintro e w4 ⟨rfl, h4, o4, z4⟩
  go_wp2_with fail
  refine (RS.put_to h4 _ _ (by decide) true (by kernel_rfl) [(⟨#[97]⟩, true), (⟨#[98]⟩, true)] (by kernel_rfl)).mono ?_
  rintro e w5 ⟨rfl, h5, o5, z5⟩
  go_wp2_with fail
  refine (RS.drop_to h5 true (by kernel_rfl) ⟨#[97]⟩ (by kernel_rfl) 1 (by kernel_rfl) [(⟨#[]⟩, false), (⟨#[98]⟩, true)] (by kernel_rfl)).mono ?_
  rintro e w6 ⟨rfl, h6, o6, z6⟩
  go_wp2_with fail
  refine (RS.put_to h6 _ _ (by decide) true (by kernel_rfl) [(⟨#[99]⟩, true), (⟨#[98]⟩, true)] (by kernel_rfl)).mono ?_
  rintro e w7 ⟨rfl, h7, o7, z7⟩
  go_wp2_with fail
  go_ret
  have hS : ∀ i, (i = w.heap.size + 1 ∨ i = w.heap.size) → w.heap.size ≤ i := by rintro i (rfl | rfl) <;> omega
  exact ⟨rfl, bl_only (bl_only (bl_only (bl_only (bl_only (bl_only b1 o2 hS) o3 hS) o4 hS) o5 hS) o6 hS) o7 hS⟩

theorem items_nil_len (w : World) :
    Calls Try.prog 17 #[.pointer none] w fun e W' => ∃ a c, e = .returned (.slice a 0 c) ∧ Below w.heap.size w W' :=
  (items_nil w).mono fun e W' ⟨v, he, ho, hb⟩ => by
    obtain ⟨a, c, rfl⟩ := own_form ho
    exact ⟨a, c, he, hb⟩

set_option maxHeartbeats 1000000 in
theorem nil_law (a x : Int) (w : World) (_ : -9223372036854775808 ≤ a ∧ a ≤ 9223372036854775807) (_ : -9223372036854775808 ≤ x ∧ x ≤ 9223372036854775807) :
    Calls Try.prog 6 #[.int .i64 a, .int .i64 x] w fun e w' => e = .returned (.bool true) ∧ Below w.heap.size w w' := by
  go_enter Try.func6, Try.ntmps6
  go_wp2_with fail
  refine (get_nil _ _).mono ?_
  rintro e w1 ⟨rfl, d1⟩
  go_wp2_with fail
  refine (drop_nil _).mono ?_
  rintro e w2 ⟨rfl, d2⟩
  go_wp2_with fail
  refine (awake_any _).mono ?_
  rintro e w3 ⟨rfl, b3⟩
  go_wp2_with fail
  refine (put_nil _ _ _).mono ?_
  rintro e w4 ⟨rfl, d4⟩
  go_wp2_with fail
  refine (low_nil _).mono ?_
  rintro e w5 ⟨rfl, d5⟩
  go_wp2_with fail
  refine (len_nil _).mono ?_
  rintro e w6 ⟨rfl, b6⟩
  go_wp2_with fail
  refine (items_nil_len _).mono ?_
  rintro e w7 ⟨p, c, rfl, b7⟩
  go_wp2_with fail
  go_ret
  exact ⟨rfl, bl_then (bl_then (bl_draws (bl_draws (bl_then (bl_draws (bl_draws (Below.refl _ _) d1) d2) b3) d4) d5) b6) b7⟩
end Go.Proofs.Ythjcomekfiibnaa
