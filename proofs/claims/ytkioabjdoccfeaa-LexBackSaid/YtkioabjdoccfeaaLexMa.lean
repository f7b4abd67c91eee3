/- Chapter 2: LexMany: signs that stand side by side. -/
import Derived.Test.YtkioabjdoccfeaaLexPl
import Derived.Laws.Bits128
namespace Go.Proofs.Ytkioabjdoccfeaa
open Go.RowKit
set_option linter.unusedVariables false
set_option linter.unusedSimpArgs false

theorem and3 (n : Int) : bits .and .i64 n 3 = n % 4 := by
  have h3 : (BitVec.ofInt 64 3).toNat = 2 ^ 2 - 1 := by decide
  have key : (BitVec.ofInt 64 n &&& BitVec.ofInt 64 3).toNat = (n % ((2 ^ 64 : Nat) : Int)).toNat % 2 ^ 2 := by
    rw [BitVec.toNat_and, BitVec.toNat_ofInt, h3, Nat.and_two_pow_sub_one_eq_mod]
  show IntKind.i64.wrap ((BitVec.ofInt 64 n &&& BitVec.ofInt 64 3).toNat : Nat) = n % 4
  rw [key, IntKind.wrap_i64]
  omega
theorem bl_append (a b : ByteArray) : bl (a ++ b) = bl a ++ bl b := by
  simp [bl, ByteArray.data_append]
/-- So many signs, each with blanks behind it. -/
def plusL (g : Nat) : Nat → Bytes
  | 0 => []
  | n + 1 => 43 :: (List.replicate g 32 ++ plusL g n)
theorem plusL_length (g n : Nat) : (plusL g n).length = n * (1 + g) := by
  induction n with
  | zero => simp [plusL]
  | succ n ih =>
    simp only [plusL, List.length_cons, List.length_append, List.length_replicate, ih]
    rw [Nat.add_mul]
    omega
theorem plusL_snoc (g n : Nat) : plusL g (n + 1) = plusL g n ++ 43 :: List.replicate g 32 := by
  induction n with
  | zero => simp [plusL]
  | succ n ih =>
    show 43 :: (List.replicate g 32 ++ plusL g (n + 1)) = 43 :: (List.replicate g 32 ++ plusL g n) ++ 43 :: List.replicate g 32
    rw [ih]
    simp
theorem plusL_drop (g n : Nat) : ∀ k, k ≤ n → (plusL g n).drop (k * (1 + g)) = plusL g (n - k) := by
  induction n with
  | zero =>
    intro k hk
    obtain rfl : k = 0 := by omega
    simp
  | succ n ih =>
    intro k hk
    cases k with
    | zero => simp
    | succ k =>
      rw [show n + 1 - (k + 1) = n - k by omega, ← ih k (by omega)]
      have e : (k + 1) * (1 + g) = (g + k * (1 + g)) + 1 := by rw [Nat.add_mul]; omega
      rw [e]
      show (List.replicate g 32 ++ plusL g n).drop (g + k * (1 + g)) = _
      rw [List.drop_append, List.length_replicate, List.drop_of_length_le (by simp), List.nil_append]
      congr 1
      omega
theorem run_blanks (g n m : Nat) : runN isBlank (List.replicate m 32 ++ plusL g n) = m := by
  induction m with
  | zero =>
    cases n with
    | zero => rfl
    | succ n => simp [plusL, runN, List.takeWhile_cons, isBlank]
  | succ m ih =>
    simp only [runN, List.replicate_succ, List.cons_append] at ih ⊢
    rw [List.takeWhile_cons]
    simp [isBlank] at ih ⊢
    exact ih
theorem plus_head (g n : Nat) : nextH (plusL g (n + 1)) = ⟨4, 1, 0⟩ := by
  have h1 : isSmall 43 = false := by decide
  have h2 : isDigit 43 = false := by decide
  have h3 : signN (43 :: (List.replicate g 32 ++ plusL g n)) = 1 := by
    simp [signN, isTwo, isSign]
  simp only [plusL, nextH]
  rw [if_neg (by rw [h1]; decide), if_neg (by rw [h2]; decide), if_neg (by decide), h3, if_neg (by decide)]
theorem plus_skip (g n k : Nat) (hk : k < n) : skipN (plusL g n) (k * (1 + g) + 1) = (k + 1) * (1 + g) := by
  have hd := plusL_drop g n k (by omega)
  obtain ⟨m, hm⟩ : ∃ m, n - k = m + 1 := ⟨n - k - 1, by omega⟩
  rw [hm] at hd
  have h1 : (plusL g n).drop (k * (1 + g) + 1) = List.replicate g 32 ++ plusL g m := by
    rw [← List.drop_drop, hd]
    rfl
  unfold skipN
  rw [h1, run_blanks, Nat.add_mul]
  omega
theorem plus_rest (g n : Nat) : ∀ m k, n - k = m → k ≤ n → ∃ ts, restFrom (plusL g n) (k * (1 + g)) = (ts, n * (1 + g)) ∧ ts.length = n - k ∧ ∀ i, i < n - k → (ts.getD i Tok.zero).at_ = (k + i) * (1 + g) := by
  intro m
  induction m with
  | zero =>
    intro k hm hk
    obtain rfl : k = n := by omega
    exact ⟨[], rest_end (by rw [plusL_length]; omega), by simp, fun i hi => by omega⟩
  | succ m ih =>
    intro k hm hk
    obtain ⟨ts, h1, h2, h3⟩ := ih (k + 1) (by omega) (by omega)
    have hd := plusL_drop g n k (by omega)
    rw [hm] at hd
    have hh : nextH ((plusL g n).drop (k * (1 + g))) = ⟨4, 1, 0⟩ := by rw [hd]; exact plus_head g m
    have hlt : k * (1 + g) < (plusL g n).length := by
      rw [plusL_length]
      exact Nat.mul_lt_mul_of_pos_right (by omega) (by omega)
    have hr := rest_some hlt (by rw [hh]; decide)
    rw [hh] at hr
    dsimp only at hr
    rw [plus_skip g n k (by omega), h1] at hr
    refine ⟨_, hr, by simp [h2]; omega, fun i hi => ?_⟩
    cases i with
    | zero => rfl
    | succ i =>
      rw [List.getD_cons_succ, h3 i (by omega)]
      congr 1
      omega
theorem plus_lex (g n : Nat) : lexL (plusL g n) = if 200 < n then ⟨[], 200 * (1 + g), 12⟩ else ⟨(eachL (plusL g n)).1, n * (1 + g), 0⟩ := by
  have hs : skipN (plusL g n) 0 = 0 * (1 + g) := by
    unfold skipN
    rw [List.drop_zero]
    have := run_blanks g n 0
    simp at this
    rw [this]
    omega
  obtain ⟨ts, h1, h2, h3⟩ := plus_rest g n n 0 (by omega) (by omega)
  unfold lexL
  rw [eachL_eq, hs, h1]
  dsimp only
  rw [h2, Nat.sub_zero, plusL_length]
  split
  · rename_i h
    rw [h3 200 (by omega), Nat.zero_add]
  · rw [if_neg (by omega)]
theorem plus_toks (g n : Nat) : (eachL (plusL g n)).1.length = n := by
  have hs : skipN (plusL g n) 0 = 0 * (1 + g) := by
    unfold skipN
    rw [List.drop_zero]
    have := run_blanks g n 0
    simp at this
    rw [this]
    omega
  obtain ⟨ts, h1, h2, h3⟩ := plus_rest g n n 0 (by omega) (by omega)
  rw [eachL_eq, hs, h1]
  omega
theorem plus_add (g n : Nat) (hg : g ≤ 3) : mkb (plusL g n) ++ ⟨#[43]⟩ ++ (⟨#[32, 32, 32]⟩ : ByteArray).extract 0 g = mkb (plusL g (n + 1)) := by
  refine bl_inj ?_
  rw [bl_append, bl_append, bl_mkb, bl_mkb, bl_take, plusL_snoc]
  have : (bl ⟨#[32, 32, 32]⟩).take g = List.replicate g 32 := by
    rcases (by omega : g = 0 ∨ g = 1 ∨ g = 2 ∨ g = 3) with rfl | rfl | rfl | rfl <;> rfl
  rw [this]
  show plusL g n ++ [43] ++ List.replicate g 32 = _
  simp
theorem rest_eq (x n : Int) : (x.tmod n + n) % n = x % n := by
  rw [Int.add_emod_right, Int.tmod_def, Int.sub_mul_emod_self_left]
set_option maxRecDepth 100000 in
set_option maxHeartbeats 4000000 in
theorem many_law (many blanks : Int) (w : World) (hm : -9223372036854775808 ≤ many ∧ many ≤ 9223372036854775807) (hbl : -9223372036854775808 ≤ blanks ∧ blanks ≤ 9223372036854775807) :
    Calls Try.prog 5 #[.int .i64 many, .int .i64 blanks] w fun e w' => e = .returned (.bool true) ∧ Below w.heap.size w w' := by
  have t1 := Int.tmod_lt_of_pos many (show (0:Int) < 261 by decide)
  have t2 := Int.lt_tmod_of_pos many (show (0:Int) < 261 by decide)
  have e1 := rest_eq many 261
  obtain ⟨n, hn⟩ : ∃ n : Nat, many % 261 = n := ⟨(many % 261).toNat, by omega⟩
  have hn2 : n ≤ 260 := by omega
  have e3 := and3 blanks
  obtain ⟨g, hg⟩ : ∃ g : Nat, blanks % 4 = g := ⟨(blanks % 4).toNat, by omega⟩
  have hg3 : g ≤ 3 := by omega
  rw [hn] at e1
  rw [hg] at e3
  clear hn hg
  have E1 := Lib.hid e1
  clear e1
  go_enter Try.func5, Try.ntmps5
  go_wp2_with fail
  refine (awake_any _).mono ?_
  rintro e w1 ⟨rfl, hb1⟩
  go_wp2_with fail
  rw [E1.out]
  have hpl := plusL_length g
  have hlb : ∀ I, I ≤ 260 → (plusL g I).length ≤ 1040 := by
    intro I hI
    rw [plusL_length]
    calc I * (1 + g) ≤ 260 * 4 := Nat.mul_le_mul hI (by omega)
      _ = 1040 := rfl
  have HLB := Lib.hid hlb
  clear hlb hpl e3 t1 t2
  go_loop [8, 9] (fun s i => ∃ I : Nat, I ≤ n ∧ i = .int .i64 I ∧ s = .string (mkb (plusL g I))) (fun _ i => n - (intOf i).toNat)
  case atStart => exact ⟨0, Nat.zero_le _, rfl, rfl⟩
  case round =>
    obtain ⟨I, hI, rfl, rfl⟩ := hrel
    by_cases hlt : I < n
    · have il : (I : Int) < n := by omega
      have hadd := plus_add g I hg3
      have ig : (g : Int) ≤ 3 := by omega
      have hsz : (mkb (plusL g I)).size ≤ 1040 := by rw [mkb_size]; exact HLB.out I (by omega)
      go_wp2_with fail
      exact ⟨⟨I + 1, hlt, by simp, rfl⟩, by simp [intOf]; omega⟩
    · obtain rfl : I = n := by omega
      have il : ¬ (I : Int) < I := by omega
      have hlx := fun w => lex_at (mkb (plusL g I)) (by rw [mkb_size]; exact Nat.le_trans (HLB.out I hn2) (by omega)) w
      rw [bl_mkb, plus_lex] at hlx
      have hsz : (mkb (plusL g I)).size = I * (1 + g) := by rw [mkb_size, plusL_length]
      by_cases h200 : 200 < I
      · rw [if_pos h200] at hlx
        have i2 : (200 : Int) < I := by omega
        have HX := Lib.hid hlx
        clear hlx hsz
        go_wp2_with fail
        refine (HX.out _).mono ?_
        rintro e w2 ⟨A, c, rfl, ht, hb2⟩
        clear ht
        go_wp2_with fail
        go_ret
        exact ⟨by simp, bl_then hb1 hb2⟩
      · rw [if_neg h200] at hlx
        dsimp only at hlx
        have hpt := plus_toks g I
        rw [hpt] at hlx
        have i2 : ¬ (200 : Int) < I := by omega
        have q1 : (((I * (1 + g) : Nat) : Int) == ((mkb (plusL g I)).size : Int)) = true := by rw [hsz]; simp
        have HX := Lib.hid hlx
        clear hlx hsz hpt
        generalize I * (1 + g) = M at *
        generalize mkb (plusL g I) = S at *
        go_wp2_with fail
        refine (HX.out _).mono ?_
        rintro e w2 ⟨A, c, rfl, ht, hb2⟩
        clear ht
        go_wp2_with fail
        go_ret
        exact ⟨rfl, bl_then hb1 hb2⟩
end Go.Proofs.Ytkioabjdoccfeaa
