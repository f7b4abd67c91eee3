/- Chapter 2: the document's answer: bytes, goes, letter, number, sign: the walks. -/
import Derived.Test.YtkioabjdoccfeaaLexPl
namespace Go.Proofs.Ytkioabjdoccfeaa
open Go.RowKit
set_option linter.unusedVariables false
set_option linter.unusedSimpArgs false

theorem rsmall_any (c : UInt8) (w : World) : Calls Try.prog 29 #[.int .u8 (c.toNat : Int)] w fun e w' => e = .returned (.bool (isSmall c)) ∧ w = w' := by
  unfold isSmall
  generalize c.toNat = n
  go_enter Try.func29, Try.ntmps29
  by_cases h1 : 97 ≤ n
  · by_cases h2 : n ≤ 122
    · have e1 : decide ((97 : Int) ≤ n) = true := decide_eq_true (by omega)
      have e2 : decide ((n : Int) ≤ 122) = true := decide_eq_true (by omega)
      have f1 : decide (97 ≤ n) = true := decide_eq_true h1
      have f2 : decide (n ≤ 122) = true := decide_eq_true h2
      rw [f1, f2]
      clear f1 f2
      go_wp2
      go_ret
      exact ⟨rfl, rfl⟩
    · have e1 : decide ((97 : Int) ≤ n) = true := decide_eq_true (by omega)
      have e2 : decide ((n : Int) ≤ 122) = false := decide_eq_false (by omega)
      have f1 : decide (97 ≤ n) = true := decide_eq_true h1
      have f2 : decide (n ≤ 122) = false := decide_eq_false h2
      rw [f1, f2]
      clear f1 f2
      go_wp2
      go_ret
      exact ⟨rfl, rfl⟩
  · have e1 : decide ((97 : Int) ≤ n) = false := decide_eq_false (by omega)
    have f1 : decide (97 ≤ n) = false := decide_eq_false h1
    rw [f1]
    clear f1
    go_wp2
    go_ret
    exact ⟨rfl, rfl⟩
theorem rdigit_any (c : UInt8) (w : World) : Calls Try.prog 31 #[.int .u8 (c.toNat : Int)] w fun e w' => e = .returned (.bool (isDigit c)) ∧ w = w' := by
  unfold isDigit
  generalize c.toNat = n
  go_enter Try.func31, Try.ntmps31
  by_cases h1 : 48 ≤ n
  · by_cases h2 : n ≤ 57
    · have e1 : decide ((48 : Int) ≤ n) = true := decide_eq_true (by omega)
      have e2 : decide ((n : Int) ≤ 57) = true := decide_eq_true (by omega)
      have f1 : decide (48 ≤ n) = true := decide_eq_true h1
      have f2 : decide (n ≤ 57) = true := decide_eq_true h2
      rw [f1, f2]
      clear f1 f2
      go_wp2
      go_ret
      exact ⟨rfl, rfl⟩
    · have e1 : decide ((48 : Int) ≤ n) = true := decide_eq_true (by omega)
      have e2 : decide ((n : Int) ≤ 57) = false := decide_eq_false (by omega)
      have f1 : decide (48 ≤ n) = true := decide_eq_true h1
      have f2 : decide (n ≤ 57) = false := decide_eq_false h2
      rw [f1, f2]
      clear f1 f2
      go_wp2
      go_ret
      exact ⟨rfl, rfl⟩
  · have e1 : decide ((48 : Int) ≤ n) = false := decide_eq_false (by omega)
    have f1 : decide (48 ≤ n) = false := decide_eq_false h1
    rw [f1]
    clear f1
    go_wp2
    go_ret
    exact ⟨rfl, rfl⟩
theorem rcap_any (c : UInt8) (w : World) : Calls Try.prog 46 #[.int .u8 (c.toNat : Int)] w fun e w' => e = .returned (.bool (isCap c)) ∧ w = w' := by
  unfold isCap
  generalize c.toNat = n
  go_enter Try.func46, Try.ntmps46
  by_cases h1 : 65 ≤ n
  · by_cases h2 : n ≤ 90
    · have e1 : decide ((65 : Int) ≤ n) = true := decide_eq_true (by omega)
      have e2 : decide ((n : Int) ≤ 90) = true := decide_eq_true (by omega)
      have f1 : decide (65 ≤ n) = true := decide_eq_true h1
      have f2 : decide (n ≤ 90) = true := decide_eq_true h2
      rw [f1, f2]
      clear f1 f2
      go_wp2
      go_ret
      exact ⟨rfl, rfl⟩
    · have e1 : decide ((65 : Int) ≤ n) = true := decide_eq_true (by omega)
      have e2 : decide ((n : Int) ≤ 90) = false := decide_eq_false (by omega)
      have f1 : decide (65 ≤ n) = true := decide_eq_true h1
      have f2 : decide (n ≤ 90) = false := decide_eq_false h2
      rw [f1, f2]
      clear f1 f2
      go_wp2
      go_ret
      exact ⟨rfl, rfl⟩
  · have e1 : decide ((65 : Int) ≤ n) = false := decide_eq_false (by omega)
    have f1 : decide (65 ≤ n) = false := decide_eq_false h1
    rw [f1]
    clear f1
    go_wp2
    go_ret
    exact ⟨rfl, rfl⟩
theorem rblank_any (c : UInt8) (w : World) : Calls Try.prog 21 #[.int .u8 (c.toNat : Int)] w fun e w' => e = .returned (.bool (isBlank c)) ∧ w = w' := by
  have hb : isBlank c = (((c.toNat : Int) == 32) || ((c.toNat : Int) == 9) || ((c.toNat : Int) == 10)) := by
    have h : ∀ n : Nat, ((c.toNat : Int) == n) = (c.toNat == n) := fun n => by rw [Bool.eq_iff_iff]; simp; omega
    have h1 := h 32
    have h2 := h 9
    have h3 := h 10
    unfold isBlank
    rw [← h1, ← h2, ← h3]
    rfl
  rw [hb]
  clear hb
  generalize (c.toNat : Int) = n
  by_cases h1 : n = 32
  · subst h1
    go_enter Try.func21, Try.ntmps21
    go_wp2
    go_ret
    exact ⟨rfl, rfl⟩
  · have d1 : (n == 32) = false := by simpa using h1
    by_cases h2 : n = 9
    · subst h2
      go_enter Try.func21, Try.ntmps21
      go_wp2
      go_ret
      exact ⟨rfl, rfl⟩
    · have d2 : (n == 9) = false := by simpa using h2
      rw [d1, d2]
      go_enter Try.func21, Try.ntmps21
      go_wp2
      go_ret
      exact ⟨by simp, rfl⟩
set_option maxHeartbeats 1000000 in
theorem goes_true (s : ByteArray) (x : Int) (a : Nat) (hx : x = a) (w : World) (hs : s.size ≤ 1000000) (ha : a ≤ 1000000) :
    Calls Try.prog 30 #[.string s, .int .i64 x, .bool true] w fun e w' => e = .returned (.int .i64 (runN isWord ((bl s).drop a))) ∧ w = w' := by
  subst hx
  have hl := bl_length s
  go_enter Try.func30, Try.ntmps30
  go_wp2_with fail
  go_loop [7] (fun i => ∃ j : Nat, j ≤ runN isWord ((bl s).drop a) ∧ i = .int .i64 j) (fun i => s.size - (intOf i).toNat)
  case atStart => exact ⟨0, Nat.zero_le _, rfl⟩
  case round =>
    obtain ⟨j, h2, rfl⟩ := hrel
    have hrl := runN_le isWord ((bl s).drop a)
    rw [List.length_drop, hl] at hrl
    have hj1 : j ≤ 1000000 := by omega
    by_cases hlt : a + j < s.size
    · have il : (a : Int) + j < s.size := by omega
      have hx := bl_get s (a + j) hlt
      have c1 := fun w => rdigit_any (s[a + j]) w
      have c2 := fun w => rsmall_any (s[a + j]) w
      obtain ⟨bd, hbd⟩ : ∃ b, isDigit (s[a + j]) = b := ⟨_, rfl⟩
      obtain ⟨bs, hbs⟩ : ∃ b, isSmall (s[a + j]) = b := ⟨_, rfl⟩
      rw [hbd] at c1
      rw [hbs] at c2
      have C1 := Lib.hid c1
      have C2 := Lib.hid c2
      have HX := Lib.hid hx
      have HL := Lib.hid hl
      have HBD := Lib.hid hbd
      have HBS := Lib.hid hbs
      clear c1 c2 hx hl hbd hbs
      have hyes : isWord (s[a + j]) = true → j + 1 ≤ runN isWord ((bl s).drop a) := fun h => runN_yes (by rw [List.length_drop, HL.out]; omega) h2 (by rw [List.getElem_drop, HX.out]; exact h)
      have hno : isWord (s[a + j]) = false → runN isWord ((bl s).drop a) = j := fun h => runN_no h2 (fun hk => by rw [List.getElem_drop, HX.out]; exact h)
      have HY := Lib.hid hyes
      have HN := Lib.hid hno
      clear hyes hno
      go_wp2_with fail
      refine (C1.out _).mono ?_
      rintro e w' ⟨rfl, rfl⟩
      go_wp2_with fail
      refine (C2.out _).mono ?_
      rintro e w' ⟨rfl, rfl⟩
      cases bd <;> cases bs
      all_goals
        go_wp2_with fail
        first
        | (go_ret
           refine ⟨?_, rfl⟩
           rw [HN.out (by simp [isWord, HBD.out, HBS.out])]
           rfl)
        | (go_round
           case rel => exact ⟨j + 1, HY.out (by simp [isWord, HBD.out, HBS.out]), by simp⟩
           case measure => simp [intOf]; omega)
    · have il : ¬ (a : Int) + j < s.size := by omega
      have hno : runN isWord ((bl s).drop a) = j := runN_no h2 (fun hk => by rw [List.length_drop, hl] at hk; omega)
      have HN := Lib.hid hno
      have HL := Lib.hid hl
      clear hno hl
      go_wp2_with fail
      go_ret
      refine ⟨?_, rfl⟩
      rw [HN.out]
      rfl
set_option maxHeartbeats 1000000 in
theorem goes_false (s : ByteArray) (x : Int) (a : Nat) (hx : x = a) (w : World) (hs : s.size ≤ 1000000) (ha : a ≤ 1000000) :
    Calls Try.prog 30 #[.string s, .int .i64 x, .bool false] w fun e w' => e = .returned (.int .i64 (runN isDigit ((bl s).drop a))) ∧ w = w' := by
  subst hx
  have hl := bl_length s
  go_enter Try.func30, Try.ntmps30
  go_wp2_with fail
  go_loop [7] (fun i => ∃ j : Nat, j ≤ runN isDigit ((bl s).drop a) ∧ i = .int .i64 j) (fun i => s.size - (intOf i).toNat)
  case atStart => exact ⟨0, Nat.zero_le _, rfl⟩
  case round =>
    obtain ⟨j, h2, rfl⟩ := hrel
    have hrl := runN_le isDigit ((bl s).drop a)
    rw [List.length_drop, hl] at hrl
    have hj1 : j ≤ 1000000 := by omega
    by_cases hlt : a + j < s.size
    · have il : (a : Int) + j < s.size := by omega
      have hx := bl_get s (a + j) hlt
      have c1 := fun w => rdigit_any (s[a + j]) w
      have c2 := fun w => rsmall_any (s[a + j]) w
      obtain ⟨bd, hbd⟩ : ∃ b, isDigit (s[a + j]) = b := ⟨_, rfl⟩
      obtain ⟨bs, hbs⟩ : ∃ b, isSmall (s[a + j]) = b := ⟨_, rfl⟩
      rw [hbd] at c1
      rw [hbs] at c2
      have C1 := Lib.hid c1
      have C2 := Lib.hid c2
      have HX := Lib.hid hx
      have HL := Lib.hid hl
      have HBD := Lib.hid hbd
      have HBS := Lib.hid hbs
      clear c1 c2 hx hl hbd hbs
      have hyes : isDigit (s[a + j]) = true → j + 1 ≤ runN isDigit ((bl s).drop a) := fun h => runN_yes (by rw [List.length_drop, HL.out]; omega) h2 (by rw [List.getElem_drop, HX.out]; exact h)
      have hno : isDigit (s[a + j]) = false → runN isDigit ((bl s).drop a) = j := fun h => runN_no h2 (fun hk => by rw [List.getElem_drop, HX.out]; exact h)
      have HY := Lib.hid hyes
      have HN := Lib.hid hno
      clear hyes hno
      go_wp2_with fail
      refine (C1.out _).mono ?_
      rintro e w' ⟨rfl, rfl⟩
      go_wp2_with fail
      refine (C2.out _).mono ?_
      rintro e w' ⟨rfl, rfl⟩
      cases bd <;> cases bs
      all_goals
        go_wp2_with fail
        first
        | (go_ret
           refine ⟨?_, rfl⟩
           rw [HN.out (by simp [isWord, HBD.out, HBS.out])]
           rfl)
        | (go_round
           case rel => exact ⟨j + 1, HY.out (by simp [isWord, HBD.out, HBS.out]), by simp⟩
           case measure => simp [intOf]; omega)
    · have il : ¬ (a : Int) + j < s.size := by omega
      have hno : runN isDigit ((bl s).drop a) = j := runN_no h2 (fun hk => by rw [List.length_drop, hl] at hk; omega)
      have HN := Lib.hid hno
      have HL := Lib.hid hl
      clear hno hl
      go_wp2_with fail
      go_ret
      refine ⟨?_, rfl⟩
      rw [HN.out]
      rfl
theorem drop_cons {s : ByteArray} {a : Nat} (h : a < s.size) : (bl s).drop a = s[a] :: (bl s).drop (a + 1) := by
  rw [List.drop_eq_getElem_cons (by rw [bl_length]; exact h)]
  rfl
set_option maxHeartbeats 1000000 in
theorem rletter_any (s : ByteArray) (x : Int) (a : Nat) (hx : x = a) (w : World) (hs : s.size ≤ 1000000) :
    Calls Try.prog 33 #[.string s, .int .i64 x] w fun e w' => e = .returned (.bool (!endsL isLetter ((bl s).drop a))) ∧ w = w' := by
  subst hx
  by_cases hlt : a < s.size
  · have il : ¬ (s.size : Int) ≤ a := by omega
    have il2 : (a : Int) < s.size := by omega
    have he : (!endsL isLetter ((bl s).drop a)) = (isSmall (s[a]) || isCap (s[a])) := by
      rw [drop_cons hlt]
      show (!(!isLetter (s[a]))) = _
      rw [Bool.not_not]
      rfl
    rw [he]
    have c1 := fun w => rsmall_any (s[a]) w
    have c2 := fun w => rcap_any (s[a]) w
    generalize isSmall (s[a]) = b1 at *
    generalize isCap (s[a]) = b2 at *
    have C1 := Lib.hid c1
    have C2 := Lib.hid c2
    clear c1 c2 he
    go_enter Try.func33, Try.ntmps33
    go_wp2_with fail
    refine (C1.out _).mono ?_
    rintro e w' ⟨rfl, rfl⟩
    go_wp2_with fail
    refine (C2.out _).mono ?_
    rintro e w' ⟨rfl, rfl⟩
    cases b1
    all_goals
      go_wp2_with fail
      go_ret
      exact ⟨by simp, rfl⟩
  · have il : (s.size : Int) ≤ a := by omega
    have he : (bl s).drop a = [] := List.drop_of_length_le (by rw [bl_length]; omega)
    rw [he]
    go_enter Try.func33, Try.ntmps33
    go_wp2_with fail
    go_ret
    exact ⟨rfl, rfl⟩
theorem numInfo : (Try.prog.info? 66).map (·.size) = some 2 := by kernel_rfl
theorem rnum_end {w W : World} {tmps : Array Value} {fr : Nat × Nat} {v0 v1 : Value} (hp : tmps.getD 2 undef = .pointer (some ⟨w.heap.size, 0, none⟩)) (hg : W.heap[w.heap.size]? = some (.cells #[v0, v1] 66 fr)) :
    (results Try.f32 tmps).run Try.prog W = .ok (.agg #[v0, v1]) W :=
  results_c' (p := 2) rfl _ _ w.heap.size 66 #[v0, v1] fr _ hp hg Try.underlying66 rfl (by rw [numInfo]; rfl)
set_option maxHeartbeats 1000000 in
theorem rnumber_any (s : ByteArray) (w : World) (hs : s.size ≤ 1000000) (hd : ∀ c ∈ bl s, isDigit c = true) :
    Calls Try.prog 32 #[.string s] w fun e w' => e = .returned (.agg #[.int .i64 (numP (bl s)).1, .bool (numP (bl s)).2]) ∧ Below w.heap.size w w' := by
  have HD := Lib.hid hd
  clear hd
  go_enter Try.func32, Try.ntmps32
  go_wp2_with fail
  go_loop [3, 4] (fun n i => ∃ (j m : Nat), j ≤ s.size ∧ i = .int .i64 j ∧ n = .int .i64 m ∧ Hid (numOf ((bl s).take j) = some m)) (fun _ i => s.size - (intOf i).toNat)
  case atStart => exact ⟨0, 0, Nat.zero_le _, rfl, rfl, Lib.hid rfl⟩
  case round =>
    obtain ⟨j, m, h1, rfl, rfl, hn⟩ := hrel
    have hm : m ≤ most63 := numOf_le _ _ (fun c hc => HD.out c (List.mem_of_mem_take hc)) hn.out
    by_cases hlt : j < s.size
    · have il : (j : Int) < s.size := by omega
      have hdj := HD.out (s[j]) (by
        have := List.getElem_mem (l := bl s) (n := j) (by rw [bl_length]; exact hlt)
        exact this)
      have hsn := take_snoc' s j hlt
      have hst := numOf_snoc ((bl s).take j) (s[j])
      rw [← hsn, hn.out] at hst
      simp [isDigit] at hdj
      obtain ⟨d, hdn⟩ : ∃ d, (s[j]).toNat = 48 + d := ⟨(s[j]).toNat - 48, by omega⟩
      have hd9 : d ≤ 9 := by omega
      simp only [numStep, hdn, Nat.add_sub_cancel_left] at hst
      have HST := Lib.hid hst
      have HM : Hid (m ≤ most63) := Lib.hid hm
      have g1 : (48 : Int) ≤ (s[j]).toNat := by omega
      have g2 : ((s[j]).toNat : Int) ≤ 57 := by omega
      have HDN := Lib.hid hdn
      clear hst hsn hdj hdn hm
      go_wp2_with fail
      · have hgt : (9223372036854775807 - (((s[j]).toNat : Int) - 48)) / 10 < (m : Int) := by assumption
        have : numOf (bl s) = none := numOf_pre (k := j + 1) (by rw [HST.out, if_pos (by have := HDN.out; omega)])
        unfold numP
        rw [this]
        exact bodyPost_ret (v := .agg #[.int .i64 0, .bool false]) (rnum_end rfl (alloc_new w _)) rfl ⟨rfl, bl_alloc (Below.refl _ w) _⟩
      · have hle : (m : Int) ≤ (9223372036854775807 - (((s[j]).toNat : Int) - 48)) / 10 := by assumption
        refine ⟨⟨j + 1, m * 10 + d, by omega, by simp, ?_, Lib.hid (by rw [HST.out, if_neg (by have := HDN.out; omega)])⟩, by simp [intOf]; omega⟩
        have := HDN.out
        simp
        omega
    · have he : (bl s).take j = bl s := List.take_of_length_le (by rw [bl_length]; omega)
      rw [he] at hn
      have il : ¬ (j : Int) < s.size := by omega
      have HE := Lib.hid he
      clear he hm
      go_wp2_with fail
      unfold numP
      rw [hn.out]
      refine bodyPost_ret (v := .agg #[.int .i64 m, .bool true]) (rnum_end rfl (alloc_new w _)) rfl ⟨rfl, bl_alloc (Below.refl _ w) _⟩
def signL : Bytes := [44, 43, 45, 42, 47, 37, 61, 60, 62, 46, 35, 33, 40, 41]
theorem signL_at (j : Nat) (h : j < 14) : (⟨#[44, 43, 45, 42, 47, 37, 61, 60, 62, 46, 35, 33, 40, 41]⟩ : ByteArray)[j]'h = signL.getD j 0 := by
  rcases (by omega : j = 0 ∨ j = 1 ∨ j = 2 ∨ j = 3 ∨ j = 4 ∨ j = 5 ∨ j = 6 ∨ j = 7 ∨ j = 8 ∨ j = 9 ∨ j = 10 ∨ j = 11 ∨ j = 12 ∨ j = 13) with rfl | rfl | rfl | rfl | rfl | rfl | rfl | rfl | rfl | rfl | rfl | rfl | rfl | rfl <;> rfl
theorem isSign_yes {c : UInt8} {j : Nat} (h : j < 14) (hc : signL.getD j 0 = c) : isSign c = true := by
  have hm : c ∈ signL := by
    rw [← hc, List.getD_eq_getElem?_getD, List.getElem?_eq_getElem (show j < signL.length from h)]
    exact List.getElem_mem _
  show signL.contains c = true
  exact List.contains_iff_mem.2 hm
theorem isSign_no {c : UInt8} (h : ∀ j, j < 14 → signL.getD j 0 ≠ c) : isSign c = false := by
  show signL.contains c = false
  rw [Bool.eq_false_iff]
  intro hc
  obtain ⟨j, hj, he⟩ := List.getElem_of_mem (List.contains_iff_mem.1 hc)
  refine h j hj ?_
  rw [List.getD_eq_getElem?_getD, List.getElem?_eq_getElem hj]
  exact he
set_option maxRecDepth 100000 in
set_option maxHeartbeats 4000000 in
theorem rsign_one (s : ByteArray) (a : Nat) (w : World) (hs : s.size ≤ 1000000) (ha : a < s.size) (v : Int) (hb : v = if isSign (s[a]) = true then 1 else 0)
    (h1 : ¬ a + 1 < s.size ∨ (∃ h : a + 1 < s.size, ((s[a + 1].toNat : Int) == 61) = false) ∨ (∃ h : a + 1 < s.size, ((s[a + 1].toNat : Int) == 61) = true ∧ ((s[a].toNat : Int) == 33) = false ∧ ((s[a].toNat : Int) == 60) = false ∧ ((s[a].toNat : Int) == 62) = false)) :
    Calls Try.prog 34 #[.string s, .int .i64 a] w fun e w' => e = .returned (.int .i64 v) ∧ ∃ q, w' = w.drewN q := by
  have i0 : (a : Int) < s.size := by omega
  have HB := Lib.hid hb
  clear hb
  have hsplit : (¬ (a : Int) + 1 < s.size) ∨ ((a : Int) + 1 < s.size ∧ ∃ h : a + 1 < s.size, ((s[a + 1].toNat : Int) == 61) = false) ∨ ((a : Int) + 1 < s.size ∧ ∃ h : a + 1 < s.size, ((s[a + 1].toNat : Int) == 61) = true ∧ ((s[a].toNat : Int) == 33) = false ∧ ((s[a].toNat : Int) == 60) = false ∧ ((s[a].toNat : Int) == 62) = false) := by
    rcases h1 with h | ⟨h, h2⟩ | ⟨h, h2⟩
    · exact .inl (by omega)
    · exact .inr (.inl ⟨by omega, h, h2⟩)
    · exact .inr (.inr ⟨by omega, h, h2⟩)
  clear h1
  rcases hsplit with i1 | ⟨i1, g0, g1⟩ | ⟨i1, g0, g1, g2, g3, g4⟩
  all_goals
    go_enter Try.func34, Try.ntmps34
    go_wp2_with fail
    go_loopw [6] (fun i wr => ∃ I : Nat, I ≤ 14 ∧ i = .int .i64 I ∧ Hid (∀ j, j < I → signL.getD j 0 ≠ s[a]) ∧ ∃ q, wr = w.drewN q) (fun i _ => 14 - (intOf i).toNat)
    case atStart => exact ⟨0, Nat.zero_le _, rfl, Lib.hid (fun j hj => absurd hj (Nat.not_lt_zero _)), 0, rfl⟩
    case round =>
      obtain ⟨I, hI, rfl, hno, q, rfl⟩ := hrel
      by_cases hlt : I < 14
      · have il : (I : Int) < 14 := by omega
        by_cases hc : signL.getD I 0 = s[a]
        · have dcmp : ((((⟨#[44, 43, 45, 42, 47, 37, 61, 60, 62, 46, 35, 33, 40, 41]⟩ : ByteArray)[I]'hlt).toNat : Int) == (s[a].toNat : Int)) = true := by
            rw [signL_at I hlt, hc]; simp
          have hb1 := isSign_yes hlt hc
          have HB1 := Lib.hid hb1
          clear hc hb1
          go_wp2_with fail
          go_quiet (fail)
          go_wp2_with fail
          go_ret
          refine ⟨?_, by first | exact ⟨_, rfl⟩ | exact ⟨_, World.drewN_drewN ..⟩⟩
          rw [HB.out, if_pos HB1.out]
          rfl
        · have dcmp : ((((⟨#[44, 43, 45, 42, 47, 37, 61, 60, 62, 46, 35, 33, 40, 41]⟩ : ByteArray)[I]'hlt).toNat : Int) == (s[a].toNat : Int)) = false := by
            rw [signL_at I hlt, beq_eq_false_iff_ne]
            intro h
            exact hc (UInt8.toNat_inj.1 (by omega))
          have hno2 : ∀ j, j < I + 1 → signL.getD j 0 ≠ s[a] := fun j hj => by
            by_cases h : j < I
            · exact hno.out j h
            · obtain rfl : j = I := by omega
              exact hc
          have HN := Lib.hid hno2
          clear hc hno2
          go_wp2_with fail
          go_quiet (fail)
          go_wp2_with fail
          go_roundw
          case rel => exact ⟨I + 1, hlt, by simp, HN, by first | exact ⟨_, rfl⟩ | exact ⟨_, World.drewN_drewN ..⟩⟩
          case measure => simp [intOf]; omega
      · obtain rfl : I = 14 := by omega
        have hb1 := isSign_no hno.out
        have HB1 := Lib.hid hb1
        clear hb1
        go_wp2_with fail
        go_ret
        refine ⟨?_, q, rfl⟩
        rw [HB.out, if_neg (by rw [HB1.out]; decide)]
        rfl
set_option maxHeartbeats 1000000 in
theorem rsign_two (s : ByteArray) (a : Nat) (w : World) (hs : s.size ≤ 1000000) (ha : a < s.size) (h1 : a + 1 < s.size) (h2 : ((s[a + 1].toNat : Int) == 61) = true) (h3 : isTwo (s[a]) = true) :
    Calls Try.prog 34 #[.string s, .int .i64 a] w fun e w' => e = .returned (.int .i64 2) ∧ ∃ q, w' = w.drewN q := by
  have i0 : (a : Int) < s.size := by omega
  have i1 : (a : Int) + 1 < s.size := by omega
  have hx : ((s[a].toNat : Int) == 33) = true ∨ (((s[a].toNat : Int) == 33) = false ∧ ((s[a].toNat : Int) == 60) = true) ∨ (((s[a].toNat : Int) == 33) = false ∧ ((s[a].toNat : Int) == 60) = false ∧ ((s[a].toNat : Int) == 62) = true) := by
    have e33 := byte_eq (s[a]) 33 (by decide)
    have e60 := byte_eq (s[a]) 60 (by decide)
    have e62 := byte_eq (s[a]) 62 (by decide)
    simp only [isTwo, List.contains_cons, List.contains_nil, Bool.or_false, Bool.or_eq_true] at h3
    have f33 : (s[a] == 33) = ((s[a].toNat : Int) == 33) := e33
    have f60 : (s[a] == 60) = ((s[a].toNat : Int) == 60) := e60
    have f62 : (s[a] == 62) = ((s[a].toNat : Int) == 62) := e62
    rw [f33, f60, f62] at h3
    cases h33 : ((s[a].toNat : Int) == 33)
    · cases h60 : ((s[a].toNat : Int) == 60)
      · rw [h33, h60] at h3
        simp at h3
        exact .inr (.inr ⟨rfl, rfl, by simpa using h3⟩)
      · exact .inr (.inl ⟨rfl, rfl⟩)
    · exact .inl rfl
  clear h3
  rcases hx with g1 | ⟨g1, g2⟩ | ⟨g1, g2, g3⟩
  all_goals
    go_enter Try.func34, Try.ntmps34
    go_wp2_with fail
    go_ret
    exact ⟨rfl, 0, rfl⟩
theorem rsign_any (s : ByteArray) (a : Nat) (w : World) (hs : s.size ≤ 1000000) (ha : a < s.size) :
    Calls Try.prog 34 #[.string s, .int .i64 a] w fun e w' => e = .returned (.int .i64 (signN ((bl s).drop a) : Nat)) ∧ ∃ q, w' = w.drewN q := by
  have hsg : signN ((bl s).drop a) = if (((bl s).drop (a + 1)).head? == some 61 && isTwo (s[a])) = true then 2 else if isSign (s[a]) = true then 1 else 0 := by
    rw [drop_cons ha]
    rfl
  have hone : ¬ a + 1 < s.size ∨ (∃ h : a + 1 < s.size, ((s[a + 1].toNat : Int) == 61) = false) ∨ (∃ h : a + 1 < s.size, ((s[a + 1].toNat : Int) == 61) = true ∧ ((s[a].toNat : Int) == 33) = false ∧ ((s[a].toNat : Int) == 60) = false ∧ ((s[a].toNat : Int) == 62) = false) → (((bl s).drop (a + 1)).head? == some 61 && isTwo (s[a])) = false →
      Calls Try.prog 34 #[.string s, .int .i64 a] w fun e w' => e = .returned (.int .i64 (signN ((bl s).drop a) : Nat)) ∧ ∃ q, w' = w.drewN q := by
    intro h1 h2
    rw [hsg, h2, if_neg (by decide)]
    exact rsign_one s a w hs ha _ (by split <;> rfl) h1
  by_cases h1 : a + 1 < s.size
  · have he : ((bl s).drop (a + 1)).head? = some s[a + 1] := by rw [drop_cons h1]; rfl
    have he2 : ((some s[a + 1] : Option UInt8) == some 61) = ((s[a + 1].toNat : Int) == 61) := byte_eq (s[a + 1]) 61 (by decide)
    by_cases h2 : ((s[a + 1].toNat : Int) == 61) = true
    · by_cases h3 : isTwo (s[a]) = true
      · rw [hsg, he, he2, h2, h3]
        exact rsign_two s a w hs ha h1 h2 h3
      · have h3' : isTwo (s[a]) = false := by simpa using h3
        refine hone (.inr (.inr ⟨h1, h2, ?_⟩)) (by rw [h3', Bool.and_false])
        have f33 : (s[a] == 33) = ((s[a].toNat : Int) == 33) := byte_eq (s[a]) 33 (by decide)
        have f60 : (s[a] == 60) = ((s[a].toNat : Int) == 60) := byte_eq (s[a]) 60 (by decide)
        have f62 : (s[a] == 62) = ((s[a].toNat : Int) == 62) := byte_eq (s[a]) 62 (by decide)
        simp only [isTwo, List.contains_cons, List.contains_nil, Bool.or_false, Bool.or_eq_false_iff] at h3'
        rw [f33, f60, f62] at h3'
        exact h3'
    · have h2' : ((s[a + 1].toNat : Int) == 61) = false := by simpa using h2
      exact hone (.inr (.inl ⟨h1, h2'⟩)) (by rw [he, he2, h2', Bool.false_and])
  · have he : (bl s).drop (a + 1) = [] := List.drop_of_length_le (by rw [bl_length]; omega)
    exact hone (.inl h1) (by rw [he]; rfl)
end Go.Proofs.Ytkioabjdoccfeaa
