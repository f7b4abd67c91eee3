/- Chapter 2: what bytes are, skip, run, ends, number, sign: the walks. -/
import Derived.Test.YtkioabjdoccfeaaLexPure
import Derived.Test.YtkioabjdoccfeaaLexIdx
import Derived.Test.YtkioabjdoccfeaaRows
import Derived.StillTailTactics
import Derived.BigQuiet
import Derived.WalkSpells
import Derived.IntWalk
namespace Go.Proofs.Ytkioabjdoccfeaa
open Go.RowKit
set_option linter.unusedVariables false
set_option linter.unusedSimpArgs false

theorem small_any (c : UInt8) (w : World) : Calls Try.prog 37 #[.int .u8 (c.toNat : Int)] w fun e w' => e = .returned (.bool (isSmall c)) ∧ w = w' := by
  unfold isSmall
  generalize c.toNat = n
  go_enter Try.func37, Try.ntmps37
  by_cases h1 : 97 ≤ n
  · by_cases h2 : n ≤ 122
    · have e1 : decide ((97 : Int) ≤ n) = true := decide_eq_true (by omega)
      have e2 : decide ((n : Int) ≤ 122) = true := decide_eq_true (by omega)
      have f1 : decide (97 ≤ n) = true := decide_eq_true h1
      have f2 : decide (n ≤ 122) = true := decide_eq_true h2
      rw [f1, f2]
      clear f1 f2
      go_wp2
      go_ret
      exact ⟨rfl, rfl⟩
    · have e1 : decide ((97 : Int) ≤ n) = true := decide_eq_true (by omega)
      have e2 : decide ((n : Int) ≤ 122) = false := decide_eq_false (by omega)
      have f1 : decide (97 ≤ n) = true := decide_eq_true h1
      have f2 : decide (n ≤ 122) = false := decide_eq_false h2
      rw [f1, f2]
      clear f1 f2
      go_wp2
      go_ret
      exact ⟨rfl, rfl⟩
  · have e1 : decide ((97 : Int) ≤ n) = false := decide_eq_false (by omega)
    have f1 : decide (97 ≤ n) = false := decide_eq_false h1
    rw [f1]
    clear f1
    go_wp2
    go_ret
    exact ⟨rfl, rfl⟩
theorem digit_any (c : UInt8) (w : World) : Calls Try.prog 38 #[.int .u8 (c.toNat : Int)] w fun e w' => e = .returned (.bool (isDigit c)) ∧ w = w' := by
  unfold isDigit
  generalize c.toNat = n
  go_enter Try.func38, Try.ntmps38
  by_cases h1 : 48 ≤ n
  · by_cases h2 : n ≤ 57
    · have e1 : decide ((48 : Int) ≤ n) = true := decide_eq_true (by omega)
      have e2 : decide ((n : Int) ≤ 57) = true := decide_eq_true (by omega)
      have f1 : decide (48 ≤ n) = true := decide_eq_true h1
      have f2 : decide (n ≤ 57) = true := decide_eq_true h2
      rw [f1, f2]
      clear f1 f2
      go_wp2
      go_ret
      exact ⟨rfl, rfl⟩
    · have e1 : decide ((48 : Int) ≤ n) = true := decide_eq_true (by omega)
      have e2 : decide ((n : Int) ≤ 57) = false := decide_eq_false (by omega)
      have f1 : decide (48 ≤ n) = true := decide_eq_true h1
      have f2 : decide (n ≤ 57) = false := decide_eq_false h2
      rw [f1, f2]
      clear f1 f2
      go_wp2
      go_ret
      exact ⟨rfl, rfl⟩
  · have e1 : decide ((48 : Int) ≤ n) = false := decide_eq_false (by omega)
    have f1 : decide (48 ≤ n) = false := decide_eq_false h1
    rw [f1]
    clear f1
    go_wp2
    go_ret
    exact ⟨rfl, rfl⟩
theorem letter_any (c : UInt8) (w : World) : Calls Try.prog 42 #[.int .u8 (c.toNat : Int)] w fun e w' => e = .returned (.bool (isLetter c)) ∧ w = w' := by
  unfold isLetter
  have hc := small_any c w
  unfold isCap
  generalize isSmall c = b at *
  generalize c.toNat = n at *
  have HC := Lib.hid hc
  clear hc
  cases b
  · by_cases h1 : 65 ≤ n
    · by_cases h2 : n ≤ 90
      · have e1 : decide ((65 : Int) ≤ n) = true := decide_eq_true (by omega)
        have e2 : decide ((n : Int) ≤ 90) = true := decide_eq_true (by omega)
        have f1 : decide (65 ≤ n) = true := decide_eq_true h1
        have f2 : decide (n ≤ 90) = true := decide_eq_true h2
        rw [f1, f2]
        clear f1 f2
        go_enter Try.func42, Try.ntmps42
        go_wp2_with fail
        refine (HC.out).mono ?_; rintro e w' ⟨rfl, rfl⟩
        go_wp2_with fail
        go_ret
        exact ⟨rfl, rfl⟩
      · have e1 : decide ((65 : Int) ≤ n) = true := decide_eq_true (by omega)
        have e2 : decide ((n : Int) ≤ 90) = false := decide_eq_false (by omega)
        have f1 : decide (65 ≤ n) = true := decide_eq_true h1
        have f2 : decide (n ≤ 90) = false := decide_eq_false h2
        rw [f1, f2]
        clear f1 f2
        go_enter Try.func42, Try.ntmps42
        go_wp2_with fail
        refine (HC.out).mono ?_; rintro e w' ⟨rfl, rfl⟩
        go_wp2_with fail
        go_ret
        exact ⟨rfl, rfl⟩
    · have e1 : decide ((65 : Int) ≤ n) = false := decide_eq_false (by omega)
      have f1 : decide (65 ≤ n) = false := decide_eq_false h1
      rw [f1]
      clear f1
      go_enter Try.func42, Try.ntmps42
      go_wp2_with fail
      refine (HC.out).mono ?_; rintro e w' ⟨rfl, rfl⟩
      go_wp2_with fail
      go_ret
      exact ⟨rfl, rfl⟩
  · go_enter Try.func42, Try.ntmps42
    go_wp2_with fail
    refine (HC.out).mono ?_; rintro e w' ⟨rfl, rfl⟩
    go_wp2_with fail
    go_ret
    exact ⟨rfl, rfl⟩
theorem word_any (c : UInt8) (w : World) : Calls Try.prog 36 #[.int .u8 (c.toNat : Int)] w fun e w' => e = .returned (.bool (isWord c)) ∧ w = w' := by
  unfold isWord
  have h1 := small_any c w
  have h2 := digit_any c w
  generalize isSmall c = a at *
  generalize isDigit c = b at *
  generalize c.toNat = n at *
  have H1 := Lib.hid h1
  have H2 := Lib.hid h2
  clear h1 h2
  cases a
  · go_enter Try.func36, Try.ntmps36
    go_wp2_with fail
    refine (H1.out).mono ?_; rintro e w' ⟨rfl, rfl⟩
    go_wp2_with fail
    refine (H2.out).mono ?_; rintro e w' ⟨rfl, rfl⟩
    go_wp2_with fail
    go_ret
    exact ⟨rfl, rfl⟩
  · go_enter Try.func36, Try.ntmps36
    go_wp2_with fail
    refine (H1.out).mono ?_; rintro e w' ⟨rfl, rfl⟩
    go_wp2_with fail
    go_ret
    exact ⟨rfl, rfl⟩
theorem idx_in (l : Bytes) (c : UInt8) : decide (0 ≤ Lib.indexByte l c) = l.contains c := by
  induction l with
  | nil => rfl
  | cons b l ih =>
    have hge := Lib.indexByte_ge l c
    unfold Lib.indexByte
    rw [List.contains_cons]
    by_cases hb : b = c
    · subst hb
      simp
    · have h1 : (b == c) = false := by simpa using hb
      have h2 : (c == b) = false := by simpa using (fun e => hb e.symm)
      rw [h1, h2, Bool.false_or, ← ih]
      by_cases h3 : Lib.indexByte l c = -1
      · rw [h3]; rfl
      · have h4 : (Lib.indexByte l c == -1) = false := by simpa using h3
        rw [h4]
        have h5 : 0 ≤ Lib.indexByte l c := by omega
        simp only [Bool.false_eq_true, if_false]
        rw [decide_eq_true h5, decide_eq_true (by omega)]
theorem idx_any (s : ByteArray) (c : UInt8) (w : World) : Calls Try.prog 23 #[.string s, .int .u8 (c.toNat : Int)] w fun e w' => e = .returned (.int .i64 (Lib.indexByte (bl s) c)) ∧ w = w' :=
  (Try.strings_IndexByte s c.toNat w).mono (by
    rintro e w' ⟨rfl, rfl⟩
    refine ⟨?_, rfl⟩
    rw [show ((c.toNat : Int).toNat.toUInt8) = c by simp]
    rfl)
/-- IndexByte, asked whether a byte is there. -/
theorem in_any (s : ByteArray) (c : UInt8) (b : Bool) (hb : (bl s).contains c = b) (w : World) : Calls Try.prog 23 #[.string s, .int .u8 (c.toNat : Int)] w fun e w' => (∃ v : Int, e = .returned (.int .i64 v) ∧ decide (0 ≤ v) = b) ∧ w = w' :=
  (idx_any s c w).mono (by
    rintro e w' ⟨rfl, rfl⟩
    exact ⟨⟨_, rfl, by rw [idx_in]; exact hb⟩, rfl⟩)
theorem blank_in (c : UInt8) : (bl ⟨#[32, 9, 10]⟩).contains c = isBlank c := by
  have h : ∀ n : UInt8, (c == n) = (c.toNat == n.toNat) := fun n => by
    rw [Bool.eq_iff_iff]
    simp [UInt8.toNat_inj]
  simp only [bl, List.contains_cons, List.contains_nil, Bool.or_false, h, isBlank]
  simp [Bool.or_assoc]
theorem skip_yes {l : Bytes} {a j : Nat} (h1 : a ≤ j) (h2 : j ≤ skipN l a) (hj : j < l.length) (hb : isBlank (l[j]) = true) : j + 1 ≤ skipN l a := by
  unfold skipN at *
  have := runN_yes (p := isBlank) (l := l.drop a) (k := j - a) (by simp; omega) (by omega) (by rw [List.getElem_drop]; simpa [show a + (j - a) = j by omega] using hb)
  omega
theorem skip_no {l : Bytes} {a j : Nat} (h1 : a ≤ j) (h2 : j ≤ skipN l a) (hb : (hj : j < l.length) → isBlank (l[j]) = false) : skipN l a = j := by
  unfold skipN at *
  have := runN_no (p := isBlank) (l := l.drop a) (k := j - a) (by omega) (fun hk => by
    rw [List.getElem_drop]
    have := hb (by simp at hk; omega)
    simpa [show a + (j - a) = j by omega] using this)
  omega
theorem bl_get (s : ByteArray) (k : Nat) (h : k < s.size) : (bl s)[k]'(by rw [bl_length]; exact h) = s[k] := rfl
set_option maxHeartbeats 1000000 in
theorem skip_any (s : ByteArray) (a : Nat) (w : World) (hs : s.size ≤ 1000000) (ha : a ≤ 2000000) :
    Calls Try.prog 18 #[.string s, .int .i64 a] w fun e w' => e = .returned (.int .i64 (skipN (bl s) a)) ∧ w = w' := by
  have hl := bl_length s
  go_enter Try.func18, Try.ntmps18
  go_wp2_with fail
  go_loop [1] (fun i => ∃ j : Nat, a ≤ j ∧ j ≤ skipN (bl s) a ∧ i = .int .i64 j) (fun i => s.size - (intOf i).toNat)
  case atStart => exact ⟨a, Nat.le_refl _, skipN_ge _ _, rfl⟩
  case round =>
    obtain ⟨j, h1, h2, rfl⟩ := hrel
    by_cases hlt : j < s.size
    · have il : (j : Int) < s.size := by omega
      have hx := bl_get s j hlt
      obtain ⟨b, hb⟩ : ∃ b, isBlank (s[j]) = b := ⟨_, rfl⟩
      have hc := fun w => in_any ⟨#[32, 9, 10]⟩ (s[j]) b ((blank_in _).trans hb) w
      have HB := Lib.hid hb
      have HC := Lib.hid hc
      have HX := Lib.hid hx
      have HL := Lib.hid hl
      clear hb hc hx hl
      go_wp2_with fail
      refine (HC.out _).mono ?_
      rintro e w' ⟨⟨v, rfl, hv⟩, rfl⟩
      cases b
      · go_wp2_with fail
        go_ret
        refine ⟨?_, rfl⟩
        rw [skip_no h1 h2 (fun h => by rw [HX.out]; exact HB.out)]
        rfl
      · go_wp2_with fail
        go_round
        case rel => exact ⟨j + 1, by omega, skip_yes h1 h2 (by rw [HL.out]; exact hlt) (by rw [HX.out]; exact HB.out), by simp⟩
        case measure => simp [intOf]; omega
    · have il : ¬ (j : Int) < s.size := by omega
      have HL := Lib.hid hl
      clear hl
      go_wp2_with fail
      go_ret
      refine ⟨?_, rfl⟩
      rw [skip_no h1 h2 (fun h => by rw [HL.out] at h; exact absurd h hlt)]
      rfl
theorem skip_int (s : ByteArray) (x : Int) (w : World) (hs : s.size ≤ 1000000) (h0 : 0 ≤ x) (h1 : x ≤ 2000000) :
    Calls Try.prog 18 #[.string s, .int .i64 x] w fun e w' => e = .returned (.int .i64 (skipN (bl s) x.toNat)) ∧ w = w' := by
  obtain ⟨a, rfl⟩ : ∃ a : Nat, x = a := ⟨x.toNat, by omega⟩
  rw [Int.toNat_natCast]
  exact skip_any s a w hs (by omega)
/-- A value of a function that asks of a byte. -/
def Asks (K : Nat) (p : UInt8 → Bool) : Prop := ∀ (c : UInt8) (w : World), Calls Try.prog K #[.int .u8 (c.toNat : Int)] w fun e w' => e = .returned (.bool (p c)) ∧ w = w'
set_option maxHeartbeats 1000000 in
theorem run_word (s : ByteArray) (w : World) (hs : s.size ≤ 1000000) :
    Calls Try.prog 39 #[.string s, .func (.func 36) #[] #[]] w fun e w' => e = .returned (.int .i64 (runN isWord (bl s))) ∧ w = w' := by
  have hl := bl_length s
  go_enter Try.func39, Try.ntmps39
  go_wp2_with fail
  go_loop [5] (fun i => ∃ j : Nat, j ≤ runN isWord (bl s) ∧ i = .int .i64 j) (fun i => s.size - (intOf i).toNat)
  case atStart => exact ⟨0, Nat.zero_le _, rfl⟩
  case round =>
    obtain ⟨j, h2, rfl⟩ := hrel
    by_cases hlt : j < s.size
    · have il : (j : Int) < s.size := by omega
      have hx := bl_get s j hlt
      obtain ⟨b, hb⟩ : ∃ b, isWord (s[j]) = b := ⟨_, rfl⟩
      have hc := fun w => word_any (s[j]) w
      rw [hb] at hc
      have HB := Lib.hid hb
      have HC := Lib.hid hc
      have HX := Lib.hid hx
      have HL := Lib.hid hl
      clear hb hc hx hl
      go_wp2_with fail
      refine (HC.out _).mono ?_
      rintro e w' ⟨rfl, rfl⟩
      cases b
      · go_wp2_with fail
        go_ret
        refine ⟨?_, rfl⟩
        rw [runN_no h2 (fun h => by rw [HX.out]; exact HB.out)]
        rfl
      · go_wp2_with fail
        go_round
        case rel => exact ⟨j + 1, runN_yes (by rw [HL.out]; exact hlt) h2 (by rw [HX.out]; exact HB.out), by simp⟩
        case measure => simp [intOf]; omega
    · have il : ¬ (j : Int) < s.size := by omega
      have HL := Lib.hid hl
      clear hl
      go_wp2_with fail
      go_ret
      refine ⟨?_, rfl⟩
      rw [runN_no h2 (fun h => by rw [HL.out] at h; exact absurd h hlt)]
      rfl
set_option maxHeartbeats 1000000 in
theorem run_digit (s : ByteArray) (w : World) (hs : s.size ≤ 1000000) :
    Calls Try.prog 39 #[.string s, .func (.func 38) #[] #[]] w fun e w' => e = .returned (.int .i64 (runN isDigit (bl s))) ∧ w = w' := by
  have hl := bl_length s
  go_enter Try.func39, Try.ntmps39
  go_wp2_with fail
  go_loop [5] (fun i => ∃ j : Nat, j ≤ runN isDigit (bl s) ∧ i = .int .i64 j) (fun i => s.size - (intOf i).toNat)
  case atStart => exact ⟨0, Nat.zero_le _, rfl⟩
  case round =>
    obtain ⟨j, h2, rfl⟩ := hrel
    by_cases hlt : j < s.size
    · have il : (j : Int) < s.size := by omega
      have hx := bl_get s j hlt
      obtain ⟨b, hb⟩ : ∃ b, isDigit (s[j]) = b := ⟨_, rfl⟩
      have hc := fun w => digit_any (s[j]) w
      rw [hb] at hc
      have HB := Lib.hid hb
      have HC := Lib.hid hc
      have HX := Lib.hid hx
      have HL := Lib.hid hl
      clear hb hc hx hl
      go_wp2_with fail
      refine (HC.out _).mono ?_
      rintro e w' ⟨rfl, rfl⟩
      cases b
      · go_wp2_with fail
        go_ret
        refine ⟨?_, rfl⟩
        rw [runN_no h2 (fun h => by rw [HX.out]; exact HB.out)]
        rfl
      · go_wp2_with fail
        go_round
        case rel => exact ⟨j + 1, runN_yes (by rw [HL.out]; exact hlt) h2 (by rw [HX.out]; exact HB.out), by simp⟩
        case measure => simp [intOf]; omega
    · have il : ¬ (j : Int) < s.size := by omega
      have HL := Lib.hid hl
      clear hl
      go_wp2_with fail
      go_ret
      refine ⟨?_, rfl⟩
      rw [runN_no h2 (fun h => by rw [HL.out] at h; exact absurd h hlt)]
      rfl
theorem ends_letter (s : ByteArray) (w : World) (hs : s.size ≤ 1000000) :
    Calls Try.prog 41 #[.string s, .func (.func 42) #[] #[]] w fun e w' => e = .returned (.bool (endsL isLetter (bl s))) ∧ w = w' := by
  have hl := bl_length s
  by_cases h0 : s.size = 0
  · have he : bl s = [] := List.eq_nil_of_length_eq_zero (by omega)
    have hs2 : s = ⟨#[]⟩ := bl_inj (by rw [he]; rfl)
    subst hs2
    go_enter Try.func41, Try.ntmps41
    go_wp2_with fail
    go_ret
    exact ⟨rfl, rfl⟩
  · have hlt : 0 < s.size := by omega
    have il : (0 : Int) < s.size := by omega
    have hx := bl_get s 0 hlt
    have he : bl s = s[0] :: (bl s).tail := by
      match h : bl s with
      | [] => rw [h] at hl; simp at hl; omega
      | c :: r => simp only [h, List.getElem_cons_zero] at hx; rw [← hx]; rfl
    have hem : s.toList.isEmpty = false := by
      rw [← decide_eq_emptyBytes]
      exact decide_eq_false (fun e => h0 (by rw [e]; rfl))
    obtain ⟨b, hb⟩ : ∃ b, isLetter (s[0]) = b := ⟨_, rfl⟩
    have hpost : endsL isLetter (bl s) = !b := by rw [he]; show (!isLetter (s[0])) = _; rw [hb]
    rw [hpost]
    have hc := fun w => letter_any (s[0]) w
    rw [hb] at hc
    have HC := Lib.hid hc
    clear hb hc hx hl he hpost
    go_enter Try.func41, Try.ntmps41
    go_wp2_with fail
    refine (HC.out _).mono ?_
    rintro e w' ⟨rfl, rfl⟩
    go_wp2_with fail
    go_ret
    exact ⟨rfl, rfl⟩
theorem ends_digit (s : ByteArray) (w : World) (hs : s.size ≤ 1000000) :
    Calls Try.prog 41 #[.string s, .func (.func 38) #[] #[]] w fun e w' => e = .returned (.bool (endsL isDigit (bl s))) ∧ w = w' := by
  have hl := bl_length s
  by_cases h0 : s.size = 0
  · have he : bl s = [] := List.eq_nil_of_length_eq_zero (by omega)
    have hs2 : s = ⟨#[]⟩ := bl_inj (by rw [he]; rfl)
    subst hs2
    go_enter Try.func41, Try.ntmps41
    go_wp2_with fail
    go_ret
    exact ⟨rfl, rfl⟩
  · have hlt : 0 < s.size := by omega
    have il : (0 : Int) < s.size := by omega
    have hx := bl_get s 0 hlt
    have he : bl s = s[0] :: (bl s).tail := by
      match h : bl s with
      | [] => rw [h] at hl; simp at hl; omega
      | c :: r => simp only [h, List.getElem_cons_zero] at hx; rw [← hx]; rfl
    have hem : s.toList.isEmpty = false := by
      rw [← decide_eq_emptyBytes]
      exact decide_eq_false (fun e => h0 (by rw [e]; rfl))
    obtain ⟨b, hb⟩ : ∃ b, isDigit (s[0]) = b := ⟨_, rfl⟩
    have hpost : endsL isDigit (bl s) = !b := by rw [he]; show (!isDigit (s[0])) = _; rw [hb]
    rw [hpost]
    have hc := fun w => digit_any (s[0]) w
    rw [hb] at hc
    have HC := Lib.hid hc
    clear hb hc hx hl he hpost
    go_enter Try.func41, Try.ntmps41
    go_wp2_with fail
    refine (HC.out _).mono ?_
    rintro e w' ⟨rfl, rfl⟩
    go_wp2_with fail
    go_ret
    exact ⟨rfl, rfl⟩

end Go.Proofs.Ytkioabjdoccfeaa
