/- Chapter 2: LexNumbers: the digits of a number are that number. -/
import Derived.Test.YtkioabjdoccfeaaLexMa
import Derived.Laws.IdiomStrings
namespace Go.Proofs.Ytkioabjdoccfeaa
open Go.RowKit
set_option linter.unusedVariables false
set_option linter.unusedSimpArgs false

theorem and63 (n : Int) : bits .and .i64 n 9223372036854775807 = n % 9223372036854775808 := by
  have h3 : (BitVec.ofInt 64 9223372036854775807).toNat = 2 ^ 63 - 1 := by decide
  have key : (BitVec.ofInt 64 n &&& BitVec.ofInt 64 9223372036854775807).toNat = (n % ((2 ^ 64 : Nat) : Int)).toNat % 2 ^ 63 := by
    rw [BitVec.toNat_and, BitVec.toNat_ofInt, h3, Nat.and_two_pow_sub_one_eq_mod]
  show IntKind.i64.wrap ((BitVec.ofInt 64 n &&& BitVec.ofInt 64 9223372036854775807).toNat : Nat) = n % 9223372036854775808
  rw [key, IntKind.wrap_i64]
  omega
theorem run_digits {l : Bytes} (h : ∀ c ∈ l, isDigit c = true) : runN isDigit l = l.length := by
  induction l with
  | nil => rfl
  | cons c r ih =>
    have := ih (fun c hc => h c (by simp [hc]))
    simp only [runN] at this ⊢
    rw [List.takeWhile_cons, h c (by simp)]
    simpa using this
theorem digit_not {c : UInt8} (h : isDigit c = true) : isSmall c = false ∧ isBlank c = false := by
  simp [isDigit, isSmall, isBlank] at *
  omega
theorem digits_head {l : Bytes} (h : ∀ c ∈ l, isDigit c = true) (h0 : l ≠ []) : nextH l = match numOf l with
    | some n => ⟨3, l.length, n⟩
    | Option.none => Hd.none := by
  match l, h0 with
  | c :: r, _ =>
    have hc := h c (by simp)
    have hr := run_digits h
    unfold nextH
    simp only
    rw [if_neg (by rw [(digit_not hc).1]; decide), if_pos hc, hr, List.take_length, List.drop_length]
    cases numOf (c :: r) with
    | none => rfl
    | some n => rfl
theorem digits_lex {l : Bytes} (h : ∀ c ∈ l, isDigit c = true) (h0 : l ≠ []) : lexL l = match numOf l with
    | some n => ⟨[⟨3, 0, l, n⟩], l.length, 0⟩
    | Option.none => ⟨[], 0, 10⟩ := by
  have hs : skipN l 0 = 0 := by
    match l, h0 with
    | c :: r, _ =>
      have hc := digit_not (h c (by simp))
      simp [skipN, runN, List.takeWhile_cons, hc.2]
  have hl : 0 < l.length := List.length_pos_iff.2 h0
  have hh := digits_head h h0
  unfold lexL
  rw [eachL_eq, hs]
  cases hn : numOf l with
  | none =>
    rw [hn] at hh
    rw [rest_none (by rw [List.drop_zero, hh]; rfl)]
    simp [hl]
  | some n =>
    rw [hn] at hh
    simp only at hh
    have hr := rest_some (l := l) (a := 0) hl (by rw [List.drop_zero, hh]; simp)
    rw [List.drop_zero, hh] at hr
    have he : skipN l (0 + l.length) = l.length := by simp [skipN, runN]
    dsimp only at hr
    rw [he, rest_end (Nat.lt_irrefl _)] at hr
    rw [hr]
    simp [tokOf, hh]
/-- The digits of x as far as they are laid: k is left. -/
def DigTo (x k : Nat) (l : Bytes) : Prop := (∀ c ∈ l, isDigit c = true) ∧ l.foldl numStep (some k) = some x ∧ l.length ≤ 19 ∧ k * 10 ^ l.length ≤ 9223372036854775807
theorem DigTo.start {x : Nat} (h : x ≤ 9223372036854775807) : DigTo x x [] := ⟨(fun c hc => by cases hc), rfl, by simp, by simpa using h⟩
theorem dig_nat (m : Nat) (h : m ≤ 9) : (UInt8.ofNat (48 + m)).toNat = 48 + m := by
  simp; omega
theorem DigTo.step {x k : Nat} {l : Bytes} (h : DigTo x k l) (hk : 0 < k ∨ l = []) : DigTo x (k / 10) (UInt8.ofNat (48 + k % 10) :: l) := by
  obtain ⟨h1, h2, h3, h4⟩ := h
  have hm : k % 10 ≤ 9 := by omega
  have hle : k ≤ 9223372036854775807 := by
    have : 1 ≤ 10 ^ l.length := Nat.one_le_pow _ _ (by decide)
    exact Nat.le_trans (Nat.le_mul_of_pos_right _ this) h4
  refine ⟨fun c hc => ?_, ?_, ?_, ?_⟩
  · rcases List.mem_cons.1 hc with rfl | hc
    · simp only [isDigit, dig_nat _ hm]
      simp; omega
    · exact h1 c hc
  · rw [List.foldl_cons]
    have : numStep (some (k / 10)) (UInt8.ofNat (48 + k % 10)) = some k := by
      simp only [numStep, dig_nat _ hm]
      rw [if_neg (by omega)]
      congr 1
      omega
    rw [this, h2]
  · rcases hk with hk | rfl
    · have : 10 ^ l.length ≤ 9223372036854775807 := Nat.le_trans (Nat.le_mul_of_pos_left _ hk) h4
      have h18 : l.length ≤ 18 := by
        rcases Nat.lt_or_ge 18 l.length with h | h
        · have := Nat.pow_le_pow_right (show 0 < 10 by decide) (show 19 ≤ l.length by omega)
          omega
        · exact h
      simp; omega
    · simp
  · rw [List.length_cons, Nat.pow_succ]
    have : k / 10 * (10 ^ l.length * 10) ≤ k * 10 ^ l.length := by
      rw [Nat.mul_comm (10 ^ l.length) 10, ← Nat.mul_assoc]
      exact Nat.mul_le_mul_right _ (Nat.div_mul_le_self k 10)
    omega
theorem zeros_num (z : Nat) (l : Bytes) : numOf (List.replicate z 48 ++ l) = numOf l := by
  induction z with
  | zero => rfl
  | succ z ih =>
    rw [List.replicate_succ, List.cons_append]
    unfold numOf at ih ⊢
    rw [List.foldl_cons]
    exact ih
theorem num_more {l : Bytes} {x d : Nat} (h : numOf l = some x) (hd : d ≤ 9) : numOf (l ++ [UInt8.ofNat (48 + d)]) = if (9223372036854775807 - d) / 10 < x then Option.none else some (x * 10 + d) := by
  rw [numOf_snoc, h]
  simp only [numStep, dig_nat _ hd, Nat.add_sub_cancel_left]
theorem one_byte (W : World) (m : Int) (k : Nat) (hk : k ≤ 9) (hm : m = 48 + (k : Int)) :
    (convert 33 9 (.slice (some ⟨W.heap.size, 0, none⟩) 1 1)).run Try.prog (W.alloc (.cells #[.int .u8 m] 5)) = .ok (.string ⟨#[UInt8.ofNat (48 + k)]⟩) (W.alloc (.cells #[.int .u8 m] 5)) := by
  refine run_convert_bytes_back (P := Try.prog) (W.alloc (.cells #[.int .u8 m] 5)) 33 9 5 ⟨W.heap.size, 0, none⟩ 1 [UInt8.ofNat (48 + k)] Try.underlying33 Try.underlying5 Try.underlying9 ?_
  intro j hj
  obtain rfl : j = 0 := by simpa using hj
  have h := cells_new_at W _ rfl [.int .u8 m] 5 0 (.int .u8 m) rfl
  refine h.trans ?_
  rw [List.getElem_cons_zero, dig_nat k hk, hm]
  simp
theorem cons_byte (c : UInt8) (l : Bytes) : (⟨#[c]⟩ : ByteArray) ++ mkb l = mkb (c :: l) := by
  refine bl_inj ?_
  rw [bl_append, bl_mkb, bl_mkb]
  rfl
theorem snoc_byte (c : UInt8) (l : Bytes) : mkb l ++ (⟨#[c]⟩ : ByteArray) = mkb (l ++ [c]) := by
  refine bl_inj ?_
  rw [bl_append, bl_mkb, bl_mkb]
  rfl
theorem zeros_add (z : Nat) (hz : z ≤ 9) (l : Bytes) : (⟨#[48, 48, 48, 48, 48, 48, 48, 48, 48]⟩ : ByteArray).extract 0 z ++ mkb l = mkb (List.replicate z 48 ++ l) := by
  refine bl_inj ?_
  rw [bl_append, bl_mkb, bl_mkb, bl_take]
  congr 1
  rcases (by omega : z = 0 ∨ z = 1 ∨ z = 2 ∨ z = 3 ∨ z = 4 ∨ z = 5 ∨ z = 6 ∨ z = 7 ∨ z = 8 ∨ z = 9) with rfl | rfl | rfl | rfl | rfl | rfl | rfl | rfl | rfl | rfl <;> rfl
def isE (v : Value) : Nat := match v with
  | .string b => if b.size = 0 then 1 else 0
  | _ => 0
set_option maxRecDepth 100000 in
set_option maxHeartbeats 4000000 in
theorem numbers_law (nn zeros digit : Int) (w : World) (h1 : -9223372036854775808 ≤ nn ∧ nn ≤ 9223372036854775807) (h2 : -9223372036854775808 ≤ zeros ∧ zeros ≤ 9223372036854775807) (h3 : -9223372036854775808 ≤ digit ∧ digit ≤ 9223372036854775807) :
    Calls Try.prog 6 #[.int .i64 nn, .int .i64 zeros, .int .i64 digit] w fun e w' => e = .returned (.bool true) ∧ Below w.heap.size w w' := by
  have e1 := and63 nn
  obtain ⟨x, hx⟩ : ∃ x : Nat, nn % 9223372036854775808 = x := ⟨(nn % 9223372036854775808).toNat, by omega⟩
  have hx2 : x ≤ most63 := by unfold most63; omega
  rw [hx] at e1
  clear hx
  have t1 := Int.tmod_lt_of_pos zeros (show (0:Int) < 10 by decide)
  have t2 := Int.lt_tmod_of_pos zeros (show (0:Int) < 10 by decide)
  have e2 := rest_eq zeros 10
  obtain ⟨z, hz⟩ : ∃ z : Nat, zeros % 10 = z := ⟨(zeros % 10).toNat, by omega⟩
  have hz9 : z ≤ 9 := by omega
  rw [hz] at e2
  have t3 := Int.tmod_lt_of_pos digit (show (0:Int) < 10 by decide)
  have t4 := Int.lt_tmod_of_pos digit (show (0:Int) < 10 by decide)
  have e3 := rest_eq digit 10
  obtain ⟨d, hd⟩ : ∃ d : Nat, digit % 10 = d := ⟨(digit % 10).toNat, by omega⟩
  have hd9 : d ≤ 9 := by omega
  rw [hd] at e3
  clear hz hd
  have E2 := Lib.hid e2
  have E3 := Lib.hid e3
  clear e2 e3
  go_enter Try.func6, Try.ntmps6
  go_wp2_with fail
  refine (awake_any _).mono ?_
  rintro e w1 ⟨rfl, hb1⟩
  go_wp2_with fail
  have HX2 := Lib.hid hx2
  clear hx2 e1
  go_loopw [9, 10] (fun s k wr => ∃ (K : Nat) (l : Bytes), k = .int .i64 K ∧ s = .string (mkb l) ∧ Hid (DigTo x K l) ∧ Below w.heap.size w wr) (fun s k _ => (intOf k).toNat + isE s)
  case atStart => exact ⟨x, [], rfl, rfl, Lib.hid (DigTo.start HX2.out), hb1⟩
  case round =>
    obtain ⟨K, l, rfl, rfl, hdt, hbr⟩ := hrel
    have hK : (K : Int) ≤ 9223372036854775807 := by
      have h4 := hdt.out.2.2.2
      have : 1 ≤ 10 ^ l.length := Nat.one_le_pow _ _ (by decide)
      have := Nat.le_trans (Nat.le_mul_of_pos_right K this) h4
      omega
    have hl19 : (mkb l).size ≤ 19 := by rw [mkb_size]; exact hdt.out.2.2.1
    by_cases h0 : 0 < K
    · have i0 : (0 : Int) < K := by omega
      have kc := one_byte wr (48 + (K : Int) % 10) (K % 10) (by omega) (by omega)
      have hstep := hdt.out.step (.inl h0)
      have kb := cons_byte (UInt8.ofNat (48 + K % 10)) l
      generalize UInt8.ofNat (48 + K % 10) = c at *
      have HST := Lib.hid hstep
      clear hstep
      go_wp2_with fail
      refine ⟨⟨K / 10, c :: l, by simp, rfl, HST, bl_alloc hbr _⟩, ?_⟩
      have hz1 : isE (.string (mkb (c :: l))) = 0 := by
        have : (mkb (c :: l)).size ≠ 0 := by rw [mkb_size]; simp
        simp [isE, this]
      rw [hz1]
      have : ((K : Int) / 10).toNat < K := by omega
      simp only [intOf]
      omega
    · obtain rfl : K = 0 := by omega
      by_cases hl0 : l = []
      · subst hl0
        have kc := one_byte wr 48 0 (by omega) (by omega)
        have hstep := hdt.out.step (.inr rfl)
        have kb := cons_byte (UInt8.ofNat (48 + 0)) []
        have hem : (mkb []).toList.isEmpty = true := by
          rw [← decide_eq_emptyBytes]
          exact decide_eq_true rfl
        have HST := Lib.hid hstep
        clear hstep
        go_wp2_with fail
        refine ⟨⟨0, _, by simp, congrArg Value.string kb, HST, bl_alloc hbr _⟩, ?_⟩
        have hz1 : isE (.string (mkb [])) = 1 := rfl
        have hz2 : isE (.string (⟨#[48]⟩ ++ mkb [])) = 0 := rfl
        rw [hz1, hz2]
        simp [intOf]
      · have hne : (mkb l).toList.isEmpty = false := by
          rw [← decide_eq_emptyBytes]
          exact decide_eq_false (fun e => hl0 (by rw [← bl_mkb l, e]; rfl))
        have e4 : (zeros.tmod 10 % 10).toNat = z := by have := E2.out; omega
        have E4 := Lib.hid e4
        obtain ⟨D, hD⟩ : ∃ D, List.replicate z 48 ++ l = D := ⟨_, rfl⟩
        have hDd : ∀ c ∈ D, isDigit c = true := by
          intro c hc
          rw [← hD] at hc
          rcases List.mem_append.1 hc with hc | hc
          · rw [List.eq_of_mem_replicate hc]; decide
          · exact hdt.out.1 c hc
        have hD0 : D ≠ [] := by rw [← hD]; simp [hl0]
        have hDn : numOf D = some x := by
          rw [← hD, zeros_num]
          exact hdt.out.2.1
        have hDl : D.length ≤ 28 := by
          rw [← hD]
          have := hdt.out.2.2.1
          simp; omega
        have hza := zeros_add z hz9 l
        rw [hD] at hza
        have HZA := Lib.hid hza
        clear e4 hza
        go_wp2_with fail
        simp only [E4.out, E2.out, E3.out, HZA.out]
        have hlx := fun w => lex_at (mkb D) (by rw [mkb_size]; omega) w
        rw [bl_mkb, digits_lex hDd hD0, hDn] at hlx
        dsimp only [List.length_cons, List.length_nil] at hlx
        have hdd : ∀ c ∈ D ++ [UInt8.ofNat (48 + d)], isDigit c = true := by
          intro c hc
          rcases List.mem_append.1 hc with hc | hc
          · exact hDd c hc
          · rw [List.mem_singleton.1 hc]
            simp only [isDigit, dig_nat d hd9]
            simp; omega
        have hly := fun w => lex_at (mkb (D ++ [UInt8.ofNat (48 + d)])) (by rw [mkb_size]; simp; omega) w
        rw [bl_mkb, digits_lex hdd (by simp), num_more hDn hd9] at hly
        have hsb := snoc_byte (UInt8.ofNat (48 + d)) D
        have kcc := fun w2 => one_byte w2 (48 + (d : Int)) d hd9 rfl
        obtain ⟨cd, hcd⟩ : ∃ cd, UInt8.ofNat (48 + d) = cd := ⟨_, rfl⟩
        rw [hcd] at hly hsb
        simp only [hcd] at kcc
        have KC := Lib.hid kcc
        have HLX := Lib.hid hlx
        have HLY := Lib.hid hly
        clear kcc hlx hly hdd hcd hDd hD0 hDn hD hne
        have hms : (mkb D).size ≤ 28 := by rw [mkb_size]; exact hDl
        refine (HLX.out _).mono ?_
        rintro e w2 ⟨A, c, rfl, ht, hb2⟩
        obtain ⟨g, rfl, hg, hc⟩ := ht.cells (by decide)
        have x0 : w2.cell? ⟨g, 0, none⟩ = some (.int .i64 3) := (hc 0 (by decide)).1
        have x2 : w2.cell? ⟨g, 2, none⟩ = some (.string (mkb D)) := (hc 0 (by decide)).2.2.1
        have x3 : w2.cell? ⟨g, 3, none⟩ = some (.int .i64 x) := (hc 0 (by decide)).2.2.2
        have hb02 := bl_then hbr hb2
        have kc := KC.out w2
        clear hc ht
        have id9 : (d : Int) ≤ 9 := by omega
        go_wp2_with fail
        have hb3 : Below w.heap.size w (w2.alloc (.cells #[.int .u8 (48 + (d : Int))] 5)) := bl_alloc hb02 _
        have hx3 : ∀ a, a.block < w2.heap.size → (w2.alloc (.cells #[.int .u8 (48 + (d : Int))] 5)).cell? a = w2.cell? a := fun a ha => World.cell?_of_block (Below.heap_alloc w2 _ a.block ha)
        by_cases hov : (9223372036854775807 - d) / 10 < x
        · have hly := HLY.out
          rw [if_pos hov] at hly
          have ho : decide ((9223372036854775807 - (d : Int)) / 10 < (x : Int)) = true := decide_eq_true (by omega)
          refine (hly _).mono ?_
          rintro e w3 ⟨A2, c2, rfl, _, hb4⟩
          have y0 : w3.cell? ⟨g, 0, none⟩ = some (.int .i64 3) := ((hb4.cell (p := ⟨g, 0, none⟩) (by simp; omega)).trans (hx3 _ hg)).trans x0
          have y2 : w3.cell? ⟨g, 2, none⟩ = some (.string (mkb D)) := ((hb4.cell (p := ⟨g, 2, none⟩) (by simp; omega)).trans (hx3 _ hg)).trans x2
          have y3 : w3.cell? ⟨g, 3, none⟩ = some (.int .i64 x) := ((hb4.cell (p := ⟨g, 3, none⟩) (by simp; omega)).trans (hx3 _ hg)).trans x3
          have hb5 := bl_then hb3 hb4
          clear hx3 x0 x2 x3 hly hb3 hb4
          go_wp2_with fail
          go_ret
          exact ⟨rfl, hb5⟩
        · have hly := HLY.out
          rw [if_neg hov] at hly
          have ho : decide ((9223372036854775807 - (d : Int)) / 10 < (x : Int)) = false := decide_eq_false (by omega)
          refine (hly _).mono ?_
          rintro e w3 ⟨A2, c2, rfl, ht, hb4⟩
          have y0 : w3.cell? ⟨g, 0, none⟩ = some (.int .i64 3) := ((hb4.cell (p := ⟨g, 0, none⟩) (by simp; omega)).trans (hx3 _ hg)).trans x0
          have y2 : w3.cell? ⟨g, 2, none⟩ = some (.string (mkb D)) := ((hb4.cell (p := ⟨g, 2, none⟩) (by simp; omega)).trans (hx3 _ hg)).trans x2
          have y3 : w3.cell? ⟨g, 3, none⟩ = some (.int .i64 x) := ((hb4.cell (p := ⟨g, 3, none⟩) (by simp; omega)).trans (hx3 _ hg)).trans x3
          obtain ⟨g2, rfl, hg2, hc2⟩ := ht.cells (by simp)
          have z3 : w3.cell? ⟨g2, 3, none⟩ = some (.int .i64 ((x : Int) * 10 + d)) := by
            have := (hc2 0 (by simp)).2.2.2
            simpa using this
          have hb5 := bl_then hb3 hb4
          have hx10 : (x : Int) * 10 + d ≤ 9223372036854775807 := by omega
          clear hx3 x0 x2 x3 hly hb3 hb4 ht hc2
          dsimp only [List.length_cons, List.length_nil]
          go_wp2_with fail
          go_ret
          exact ⟨rfl, hb5⟩
end Go.Proofs.Ytkioabjdoccfeaa
