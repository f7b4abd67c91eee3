import Derived.Test.YtebphjbfogpndaaPNumClampsx1
import Derived.WalkLawsBesides
import Derived.Deep.QuietTactic
import Derived.BigQuiet
namespace Go.Proofs.Ytebphjbfogpndaa
open Go.RowKit Go.Proofs.Ytebphjbfogpndaa.PNumClamps Go.Proofs.YtebphjbfogpndaaW.PrintWords

theorem run_min_str {P : Program} {w : World} (ts : Array TypeId) (t : TypeId) (x y : ByteArray) : (Builtin.min_ ts t #[.string x, .string y]).run P w = .ok (.string (if (Op.bytesLess x.toList y.toList || x.toList == y.toList) = true then x else y)) w := by
  cases h : (Op.bytesLess x.toList y.toList || x.toList == y.toList) <;> simp [Builtin.min_, Builtin.min2, Op.stringOp, asBool, h]
attribute [local go_sem] run_min_str

def clampS (a b c : ByteArray) : ByteArray :=
  if Op.bytesLess a.toList b.toList = true then b else if (Op.bytesLess a.toList c.toList || a.toList == c.toList) = true then a else c
def clampI (a b c : Int) : Int := if a < b then b else if c < a then c else a

theorem clamp_str (a b c : ByteArray) (w : World) :
    Calls Try.prog 14 #[.string a, .string b, .string c] w fun e w' => e = .returned (.string (clampS a b c)) ∧ w' = w := by
  by_cases h : Op.bytesLess a.toList b.toList = true
  · go_enter Try.func14, Try.ntmps14
    go_wp2
    go_ret
    exact ⟨by simp [clampS, h], rfl⟩
  · have h := Bool.eq_false_iff.mpr h
    go_enter Try.func14, Try.ntmps14
    go_wp2
    all_goals
      go_ret
      exact ⟨by simp_all [clampS], rfl⟩

theorem clamp_int (a b c : Int) (w : World) :
    Calls Try.prog 13 #[.int .i64 a, .int .i64 b, .int .i64 c] w fun e w' => e = .returned (.int .i64 (clampI a b c)) ∧ w' = w := by
  have h : (a < b ∧ clampI a b c = b) ∨ (b ≤ a ∧ c < a ∧ clampI a b c = c) ∨ (b ≤ a ∧ a ≤ c ∧ clampI a b c = a) := by
    unfold clampI
    by_cases h : a < b
    · exact .inl ⟨h, by rw [if_pos h]⟩
    · by_cases h' : c < a
      · exact .inr (.inl ⟨by omega, h', by rw [if_neg h, if_pos h']⟩)
      · exact .inr (.inr ⟨by omega, by omega, by rw [if_neg h, if_neg h']⟩)
  rcases h with ⟨h, e⟩ | ⟨h, h', e⟩ | ⟨h, h', e⟩
  all_goals
    rw [e]
    clear e
    go_enter Try.func13, Try.ntmps13
    go_wp2
    go_ret
    exact ⟨rfl, rfl⟩

theorem awake_any (w : World) : Calls Try.prog 9 #[] w fun e w' => e = .returned (.bool true) ∧ ∃ n, w' = w.drewN n :=
  (sibyllaw01_awake.calls true w (by kernel_rfl)).mono fun _ _ h => ⟨h.1, h.2.out⟩

theorem int_ways (a b c : Int) : (a < b ∧ clampI a b c = b) ∨ (b ≤ a ∧ c < a ∧ clampI a b c = c) ∨ (b ≤ a ∧ a ≤ c ∧ clampI a b c = a) := by
  unfold clampI
  by_cases h : a < b
  · exact .inl ⟨h, by rw [if_pos h]⟩
  · by_cases h' : c < a
    · exact .inr (.inl ⟨by omega, h', by rw [if_neg h, if_pos h']⟩)
    · exact .inr (.inr ⟨by omega, by omega, by rw [if_neg h, if_neg h']⟩)
theorem str_ways (a b c : ByteArray) : (Op.bytesLess a.toList b.toList = true ∧ clampS a b c = b) ∨
    (Op.bytesLess a.toList b.toList = false ∧ Op.bytesLess a.toList c.toList = true ∧ clampS a b c = a) ∨
    (Op.bytesLess a.toList b.toList = false ∧ Op.bytesLess a.toList c.toList = false ∧ (a.toList == c.toList) = true ∧ clampS a b c = a) ∨
    (Op.bytesLess a.toList b.toList = false ∧ Op.bytesLess a.toList c.toList = false ∧ (a.toList == c.toList) = false ∧ clampS a b c = c) := by
  unfold clampS
  cases h1 : Op.bytesLess a.toList b.toList
  · cases h2 : Op.bytesLess a.toList c.toList
    · cases h3 : (a.toList == c.toList) <;> simp
    · simp
  · simp
theorem again (x b c : Int) (h : x = b ∨ x = c ∨ (b ≤ x ∧ x ≤ c)) : c < b ∨ (b ≤ c ∧ clampI x b c = x) := by
  by_cases hb : c < b
  · exact .inl hb
  · refine .inr ⟨by omega, ?_⟩
    unfold clampI
    rw [if_neg (by omega), if_neg (by omega)]

set_option maxHeartbeats 8000000 in
set_option maxRecDepth 100000 in
theorem clamps_any (a b c : Int) (s t u : ByteArray) (w : World) (_ : -9223372036854775808 ≤ a ∧ a ≤ 9223372036854775807) (_ : -9223372036854775808 ≤ b ∧ b ≤ 9223372036854775807) (_ : -9223372036854775808 ≤ c ∧ c ≤ 9223372036854775807) :
    Calls Try.prog 8 #[.agg #[.int .i64 a, .int .i64 b, .int .i64 c], .agg #[.string s, .string t, .string u]] w fun e w' => e = .returned (.bool true) ∧ Below w.heap.size w w' := by
  rcases int_ways a b c with ⟨h1, e1⟩ | ⟨h1, h2, e1⟩ | ⟨h1, h2, e1⟩
  all_goals
    rcases again (clampI a b c) b c (by omega) with h3 | ⟨h3, e3⟩
    all_goals
      rcases str_ways s t u with ⟨k1, e2⟩ | ⟨k1, k2, e2⟩ | ⟨k1, k2, k3, e2⟩ | ⟨k1, k2, k3, e2⟩
      all_goals
        (try rw [e1] at e3)
        go_enter Try.func8, Try.ntmps8
        go_wp2_with (first | (go_at_call 9; refine (awake_any _).mono ?_; rintro e w' ⟨rfl, n, rfl⟩) | (go_at_call 13; refine (clamp_int _ _ _ _).mono ?_; rintro e w' ⟨rfl, rfl⟩) | (go_at_call 14; refine (clamp_str _ _ _ _).mono ?_; rintro e w' ⟨rfl, rfl⟩))
        all_goals
          go_ret
          exact ⟨by first | rfl | simp, pw_below_drewN (((Below.refl _ _).alloc (Nat.le_refl _) _).alloc (by simp) _) _⟩
end Go.Proofs.Ytebphjbfogpndaa
