/- Chapter 2: the document's answer: Next. -/
import Derived.Test.YtkioabjdoccfeaaLexR
namespace Go.Proofs.Ytkioabjdoccfeaa
open Go.RowKit
set_option linter.unusedVariables false
set_option linter.unusedSimpArgs false

def rtok (s : ByteArray) (a : Nat) (h : Hd) : List Value := [.int .i64 h.kind, .int .i64 a, .string (s.extract a (a + h.len)), .int .i64 h.n]
def rnone : List Value := [.int .i64 0, .int .i64 0, .string ⟨#[]⟩, .int .i64 0]
def rnext (s : ByteArray) (a : Nat) (h : Hd) : List Value := if h.kind = 0 then rnone else rtok s a h
theorem rnext_end {w W : World} {tmps : Array Value} {cs : Array Value} {fr : Nat × Nat} {v : List Value} (hp : tmps.getD 4 undef = .pointer (some ⟨w.heap.size, 0, none⟩)) (hg : W.heap[w.heap.size]? = some (.cells cs 31 fr)) (hv : cs = v.toArray) (hl : v.length = 4) :
    (results Try.f22 tmps).run Try.prog W = .ok (.agg v.toArray) W := by
  subst hv
  exact results_c' (p := 4) rfl _ _ w.heap.size 31 v.toArray fr _ hp hg Try.underlying31 rfl (by rw [tokInfo, List.size_toArray, hl])
theorem run_le_drop (s : ByteArray) (a : Nat) (p : UInt8 → Bool) : runN p ((bl s).drop a) ≤ s.size - a := by
  have := runN_le p ((bl s).drop a)
  rwa [List.length_drop, bl_length] at this
set_option maxHeartbeats 4000000 in
theorem rnext_small (s : ByteArray) (a : Nat) (w : World) (hs : s.size ≤ 1000000) (ha : a < s.size) (h1 : isSmall (s[a]) = true) :
    Calls Try.prog 22 #[.string s, .int .i64 a] w fun e w' => e = .returned (.agg (rtok s a ⟨1, runN isWord ((bl s).drop a), 0⟩).toArray) ∧ Below w.heap.size w w' := by
  have i0 : (a : Int) < s.size := by omega
  have c1 := fun w => rsmall_any (s[a]) w
  rw [h1] at c1
  have hle := run_le_drop s a isWord
  have hg := fun w => goes_true s a a rfl w hs (by omega)
  generalize runN isWord ((bl s).drop a) = k at *
  have ik : (a : Int) + k ≤ s.size := by omega
  have C1 := Lib.hid c1
  have CG := Lib.hid hg
  clear c1 h1 hg
  go_enter Try.func22, Try.ntmps22
  go_wp2_with fail
  refine (C1.out _).mono ?_
  rintro e w' ⟨rfl, rfl⟩
  go_wp2_with fail
  refine (CG.out _).mono ?_
  rintro e w' ⟨rfl, rfl⟩
  go_wp2_with fail
  have e1 : ((a : Int) + (k : Int)).toNat = a + k := by omega
  try rw [e1]
  refine bodyPost_ret (v := .agg (rtok s a ⟨1, k, 0⟩).toArray) (rnext_end rfl (alloc_new w _) (by first | rfl | (simp [rtok])) rfl) rfl ⟨rfl, bl_alloc (Below.refl _ w) _⟩
set_option maxHeartbeats 4000000 in
theorem rnext_digit (s : ByteArray) (a : Nat) (w : World) (hs : s.size ≤ 1000000) (ha : a < s.size) (h1 : isSmall (s[a]) = false) (h2 : isDigit (s[a]) = true) :
    Calls Try.prog 22 #[.string s, .int .i64 a] w fun e w' => e = .returned (.agg (match numOf (((bl s).drop a).take (runN isDigit ((bl s).drop a))) with
      | some n => if endsL isLetter (((bl s).drop a).drop (runN isDigit ((bl s).drop a))) = true then rtok s a ⟨3, runN isDigit ((bl s).drop a), n⟩ else rnone
      | Option.none => rnone).toArray) ∧ Below w.heap.size w w' := by
  have i0 : (a : Int) < s.size := by omega
  have c1 := fun w => rsmall_any (s[a]) w
  have c2 := fun w => rdigit_any (s[a]) w
  rw [h1] at c1
  rw [h2] at c2
  have hle := run_le_drop s a isDigit
  have hg := fun w => goes_false s a a rfl w hs (by omega)
  have hall := runN_all (p := isDigit) (l := (bl s).drop a)
  generalize runN isDigit ((bl s).drop a) = k at *
  have hbx : bl (s.extract a (a + k)) = ((bl s).drop a).take k := by rw [bl_extract, List.drop_take, Nat.add_sub_cancel_left]
  have hnum := fun w => rnumber_any (s.extract a (a + k)) w (by rw [← bl_length, hbx, List.length_take, List.length_drop, bl_length]; omega) (by rw [hbx]; exact hall)
  rw [hbx] at hnum
  have hend := fun w => rletter_any s ((a : Int) + k) (a + k) (by omega) w hs
  rw [← List.drop_drop] at hend
  have ik : (a : Int) + k ≤ s.size := by omega
  obtain ⟨eb, heb⟩ : ∃ eb, endsL isLetter (((bl s).drop a).drop k) = eb := ⟨_, rfl⟩
  have C1 := Lib.hid c1
  have C2 := Lib.hid c2
  have CG := Lib.hid hg
  rw [heb] at hend ⊢
  have CE := Lib.hid hend
  clear c1 c2 h1 h2 hall hg hend heb hbx
  have e1 : ((a : Int) + (k : Int)).toNat = a + k := by omega
  have E1 := Lib.hid e1
  clear e1
  unfold numP at hnum
  cases hn : numOf (((bl s).drop a).take k) with
  | none =>
    rw [hn] at hnum
    have CN := Lib.hid hnum
    clear hn hnum
    go_enter Try.func22, Try.ntmps22
    go_wp2_with fail
    refine (C1.out _).mono ?_
    rintro e w' ⟨rfl, rfl⟩
    go_wp2_with fail
    refine (C2.out _).mono ?_
    rintro e w' ⟨rfl, rfl⟩
    go_wp2_with fail
    refine (CG.out _).mono ?_
    rintro e w' ⟨rfl, rfl⟩
    go_wp2_with fail
    try rw [E1.out]
    refine (CN.out _).mono ?_
    rintro e w1 ⟨rfl, hb1⟩
    have hg := (hb1.block w.heap.size (by simp)).trans (alloc_new w _)
    have hb := bl_then (bl_alloc (Below.refl _ w) _) hb1
    have hz1 := hb1.size
    simp at hz1
    have hb2 := bl_alloc hb (.cells #[.int .i64 0, .bool false] 66)
    have hg2 := alloc_old hg (.cells #[.int .i64 0, .bool false] 66)
    have hgn := alloc_new w1 (.cells #[.int .i64 0, .bool false] 66)
    have k0 := cell_of_blk hg2 0
    have k1 := cell_of_blk hg2 1
    have k2 := cell_of_blk hg2 2
    have k3 := cell_of_blk hg2 3
    have f0 := free_of_blk hg2 0
    have f1 := free_of_blk hg2 1
    have f2 := free_of_blk hg2 2
    have f3 := free_of_blk hg2 3
    simp only [List.getElem?_cons_zero, List.getElem?_cons_succ] at k0 k1 k2 k3
    have ts := fun x0 x1 x2 x3 => tok_set hg2 x0 x1 x2 x3
    have TS := Lib.hid ts
    have HG := Lib.hid hg
    have HG2 := Lib.hid hg2
    have HB2 := Lib.hid hb2
    clear hg hg2 ts hb1 hgn hb2
    go_wp2_with fail
    refine (CE.out _).mono ?_
    rintro e w' ⟨rfl, rfl⟩
    go_wp2_with fail
    try rw [E1.out]
    exact bodyPost_ret (v := .agg rnone.toArray) (rnext_end rfl (TS.out _ _ _ _) rfl rfl) rfl ⟨rfl, bl_set (bl_set (bl_set (bl_set HB2.out _ _ (Nat.le_refl _)) _ _ (Nat.le_refl _)) _ _ (Nat.le_refl _)) _ _ (Nat.le_refl _)⟩
  | some n =>
    rw [hn] at hnum
    have CN := Lib.hid hnum
    clear hn hnum
    cases eb
    all_goals simp only [Bool.false_eq_true, if_false, if_true]
    · skip
      go_enter Try.func22, Try.ntmps22
      go_wp2_with fail
      refine (C1.out _).mono ?_
      rintro e w' ⟨rfl, rfl⟩
      go_wp2_with fail
      refine (C2.out _).mono ?_
      rintro e w' ⟨rfl, rfl⟩
      go_wp2_with fail
      refine (CG.out _).mono ?_
      rintro e w' ⟨rfl, rfl⟩
      go_wp2_with fail
      try rw [E1.out]
      refine (CN.out _).mono ?_
      rintro e w1 ⟨rfl, hb1⟩
      have hg := (hb1.block w.heap.size (by simp)).trans (alloc_new w _)
      have hb := bl_then (bl_alloc (Below.refl _ w) _) hb1
      have hz1 := hb1.size
      simp at hz1
      have hb2 := bl_alloc hb (.cells #[.int .i64 n, .bool true] 66)
      have hg2 := alloc_old hg (.cells #[.int .i64 n, .bool true] 66)
      have hgn := alloc_new w1 (.cells #[.int .i64 n, .bool true] 66)
      have k0 := cell_of_blk hg2 0
      have k1 := cell_of_blk hg2 1
      have k2 := cell_of_blk hg2 2
      have k3 := cell_of_blk hg2 3
      have f0 := free_of_blk hg2 0
      have f1 := free_of_blk hg2 1
      have f2 := free_of_blk hg2 2
      have f3 := free_of_blk hg2 3
      simp only [List.getElem?_cons_zero, List.getElem?_cons_succ] at k0 k1 k2 k3
      have ts := fun x0 x1 x2 x3 => tok_set hg2 x0 x1 x2 x3
      have TS := Lib.hid ts
      have HG := Lib.hid hg
      have HG2 := Lib.hid hg2
      have HB2 := Lib.hid hb2
      clear hg hg2 ts hb1 hgn hb2
      go_wp2_with fail
      refine (CE.out _).mono ?_
      rintro e w' ⟨rfl, rfl⟩
      go_wp2_with fail
      try rw [E1.out]
      exact bodyPost_ret (v := .agg rnone.toArray) (rnext_end rfl (TS.out _ _ _ _) rfl rfl) rfl ⟨rfl, bl_set (bl_set (bl_set (bl_set HB2.out _ _ (Nat.le_refl _)) _ _ (Nat.le_refl _)) _ _ (Nat.le_refl _)) _ _ (Nat.le_refl _)⟩
    · skip
      go_enter Try.func22, Try.ntmps22
      go_wp2_with fail
      refine (C1.out _).mono ?_
      rintro e w' ⟨rfl, rfl⟩
      go_wp2_with fail
      refine (C2.out _).mono ?_
      rintro e w' ⟨rfl, rfl⟩
      go_wp2_with fail
      refine (CG.out _).mono ?_
      rintro e w' ⟨rfl, rfl⟩
      go_wp2_with fail
      try rw [E1.out]
      refine (CN.out _).mono ?_
      rintro e w1 ⟨rfl, hb1⟩
      have hg := (hb1.block w.heap.size (by simp)).trans (alloc_new w _)
      have hb := bl_then (bl_alloc (Below.refl _ w) _) hb1
      have hz1 := hb1.size
      simp at hz1
      have hb2 := bl_alloc hb (.cells #[.int .i64 n, .bool true] 66)
      have hg2 := alloc_old hg (.cells #[.int .i64 n, .bool true] 66)
      have hgn := alloc_new w1 (.cells #[.int .i64 n, .bool true] 66)
      have k0 := cell_of_blk hg2 0
      have k1 := cell_of_blk hg2 1
      have k2 := cell_of_blk hg2 2
      have k3 := cell_of_blk hg2 3
      have f0 := free_of_blk hg2 0
      have f1 := free_of_blk hg2 1
      have f2 := free_of_blk hg2 2
      have f3 := free_of_blk hg2 3
      simp only [List.getElem?_cons_zero, List.getElem?_cons_succ] at k0 k1 k2 k3
      have ts := fun x0 x1 x2 x3 => tok_set hg2 x0 x1 x2 x3
      have TS := Lib.hid ts
      have HG := Lib.hid hg
      have HG2 := Lib.hid hg2
      have HB2 := Lib.hid hb2
      clear hg hg2 ts hb1 hgn hb2
      go_wp2_with fail
      refine (CE.out _).mono ?_
      rintro e w' ⟨rfl, rfl⟩
      go_wp2_with fail
      try rw [E1.out]
      go_region
      all_goals
        go_wp2
        exact bodyPost_ret (v := .agg (rtok s a ⟨3, k, n⟩).toArray) (rnext_end rfl (TS.out _ _ _ _) rfl rfl) rfl ⟨rfl, bl_drew (bl_set (bl_set (bl_set (bl_set HB2.out _ _ (Nat.le_refl _)) _ _ (Nat.le_refl _)) _ _ (Nat.le_refl _)) _ _ (Nat.le_refl _))⟩
set_option maxHeartbeats 4000000 in
theorem rnext_type (s : ByteArray) (a : Nat) (w : World) (hs : s.size ≤ 1000000) (ha : a < s.size) (h1 : isSmall (s[a]) = false) (h2 : isDigit (s[a]) = false) (h3 : 65 ≤ (s[a]).toNat) (h4 : (s[a]).toNat ≤ 72) :
    Calls Try.prog 22 #[.string s, .int .i64 a] w fun e w' => e = .returned (.agg (if endsL isLetter ((bl s).drop (a + 1)) = true ∧ endsL isDigit ((bl s).drop (a + 1)) = true then rtok s a ⟨2, 1, (s[a]).toNat - 65⟩ else rnone).toArray) ∧ Below w.heap.size w w' := by
  have i0 : (a : Int) < s.size := by omega
  have c1 := fun w => rsmall_any (s[a]) w
  have c2 := fun w => rdigit_any (s[a]) w
  rw [h1] at c1
  rw [h2] at c2
  have hend := fun w => rletter_any s ((a : Int) + 1) (a + 1) (by omega) w hs
  have hend2 := fun w => goes_false s ((a : Int) + 1) (a + 1) (by omega) w hs (by omega)
  obtain ⟨ea, hea⟩ : ∃ eb, endsL isLetter ((bl s).drop (a + 1)) = eb := ⟨_, rfl⟩
  obtain ⟨eb, heb⟩ : ∃ eb, endsL isDigit ((bl s).drop (a + 1)) = eb := ⟨_, rfl⟩
  rw [hea] at hend
  rw [hea, heb]
  have hk : (0 < runN isDigit ((bl s).drop (a + 1))) ↔ eb = false := by
    rw [← heb]
    cases (bl s).drop (a + 1) with
    | nil => simp [runN, endsL]
    | cons c r =>
      by_cases hc : isDigit c = true
      · simp [runN, List.takeWhile_cons, endsL, hc]
      · simp [runN, List.takeWhile_cons, endsL, hc]
  generalize runN isDigit ((bl s).drop (a + 1)) = k at *
  obtain ⟨d, hdn⟩ : ∃ d, (s[a]).toNat = 65 + d := ⟨(s[a]).toNat - 65, by omega⟩
  have hd7 : d ≤ 7 := by omega
  have hsub : (s[a]).toNat - 65 = d := by omega
  rw [hsub]
  have g1 : decide ((65 : Int) ≤ (s[a]).toNat) = true := decide_eq_true (by omega)
  have g2 : decide (((s[a]).toNat : Int) ≤ 72) = true := decide_eq_true (by omega)
  have b1 : (65 : Int) ≤ (s[a]).toNat := by omega
  have b2 : ((s[a]).toNat : Int) ≤ 72 := by omega
  have C1 := Lib.hid c1
  have C2 := Lib.hid c2
  have CE := Lib.hid hend
  have CF := Lib.hid hend2
  have HD := Lib.hid hdn
  have HK := Lib.hid hk
  clear c1 c2 h1 h2 hend hend2 hea heb hsub hdn h3 h4 hk
  have iz : (a : Int) + 1 ≤ s.size := by omega
  have e1 : ((a : Int) + 1).toNat = a + 1 := by omega
  cases ea
  · simp only [Bool.false_eq_true, false_and, if_false]
    go_enter Try.func22, Try.ntmps22
    go_wp2_with fail
    refine (C1.out _).mono ?_
    rintro e w' ⟨rfl, rfl⟩
    go_wp2_with fail
    refine (C2.out _).mono ?_
    rintro e w' ⟨rfl, rfl⟩
    go_wp2_with fail
    refine (CE.out _).mono ?_
    rintro e w' ⟨rfl, rfl⟩
    go_wp2_with fail
    exact bodyPost_ret (v := .agg rnone.toArray) (rnext_end rfl (alloc_new w _) rfl rfl) rfl ⟨rfl, bl_alloc (Below.refl _ w) _⟩
  · cases eb
    · have ik : (0 : Int) < k := by have := HK.out.2 rfl; omega
      simp only [Bool.false_eq_true, and_false, if_false]
      go_enter Try.func22, Try.ntmps22
      go_wp2_with fail
      refine (C1.out _).mono ?_
      rintro e w' ⟨rfl, rfl⟩
      go_wp2_with fail
      refine (C2.out _).mono ?_
      rintro e w' ⟨rfl, rfl⟩
      go_wp2_with fail
      refine (CE.out _).mono ?_
      rintro e w' ⟨rfl, rfl⟩
      go_wp2_with fail
      refine (CF.out _).mono ?_
      rintro e w' ⟨rfl, rfl⟩
      go_wp2_with fail
      exact bodyPost_ret (v := .agg rnone.toArray) (rnext_end rfl (alloc_new w _) rfl rfl) rfl ⟨rfl, bl_alloc (Below.refl _ w) _⟩
    · have ik : ¬ (0 : Int) < k := by
        intro h
        have := HK.out.1 (by omega)
        cases this
      simp only [and_self, if_true]
      go_enter Try.func22, Try.ntmps22
      go_wp2_with fail
      refine (C1.out _).mono ?_
      rintro e w' ⟨rfl, rfl⟩
      go_wp2_with fail
      refine (C2.out _).mono ?_
      rintro e w' ⟨rfl, rfl⟩
      go_wp2_with fail
      refine (CE.out _).mono ?_
      rintro e w' ⟨rfl, rfl⟩
      go_wp2_with fail
      refine (CF.out _).mono ?_
      rintro e w' ⟨rfl, rfl⟩
      go_wp2_with fail
      have he : (((s[a]).toNat : Int) - 65) = (d : Int) := by rw [HD.out]; omega
      try rw [he]
      exact bodyPost_ret (v := .agg (rtok s a ⟨2, 1, d⟩).toArray) (rnext_end rfl (alloc_new w _) rfl rfl) rfl ⟨rfl, bl_alloc (Below.refl _ w) _⟩
set_option maxHeartbeats 4000000 in
theorem rnext_sign (s : ByteArray) (a : Nat) (w : World) (hs : s.size ≤ 1000000) (ha : a < s.size) (h1 : isSmall (s[a]) = false) (h2 : isDigit (s[a]) = false) (h3 : ¬ (65 ≤ (s[a]).toNat ∧ (s[a]).toNat ≤ 72)) :
    Calls Try.prog 22 #[.string s, .int .i64 a] w fun e w' => e = .returned (.agg (if signN ((bl s).drop a) = 0 then rnone else rtok s a ⟨4, signN ((bl s).drop a), 0⟩).toArray) ∧ Below w.heap.size w w' := by
  have i0 : (a : Int) < s.size := by omega
  have c1 := fun w => rsmall_any (s[a]) w
  have c2 := fun w => rdigit_any (s[a]) w
  rw [h1] at c1
  rw [h2] at c2
  have hsg := fun w => rsign_any s a w hs ha
  have hle := signN_le ((bl s).drop a)
  rw [List.length_drop, bl_length] at hle
  generalize signN ((bl s).drop a) = k at *
  have C1 := Lib.hid c1
  have C2 := Lib.hid c2
  have CS := Lib.hid hsg
  clear c1 c2 h1 h2 hsg
  have hcase : (s[a]).toNat < 65 ∨ 72 < (s[a]).toNat := by omega
  have ik : (a : Int) + k ≤ s.size := by omega
  have e1 : ((a : Int) + (k : Int)).toNat = a + k := by omega
  have E1 := Lib.hid e1
  clear h3 e1
  have hgs : decide ((65 : Int) ≤ (s[a]).toNat) = false ∨ (decide ((65 : Int) ≤ (s[a]).toNat) = true ∧ decide (((s[a]).toNat : Int) ≤ 72) = false) := by
    rcases hcase with g | g
    · exact .inl (decide_eq_false (by omega))
    · exact .inr ⟨decide_eq_true (by omega), decide_eq_false (by omega)⟩
  clear hcase
  by_cases hk : k = 0
  · subst hk
    rw [if_pos rfl]
    rcases hgs with g1 | ⟨g1, g2⟩
    all_goals
      go_enter Try.func22, Try.ntmps22
      go_wp2_with fail
      refine (C1.out _).mono ?_
      rintro e w' ⟨rfl, rfl⟩
      go_wp2_with fail
      refine (C2.out _).mono ?_
      rintro e w' ⟨rfl, rfl⟩
      go_wp2_with fail
      refine (CS.out _).mono ?_
      rintro e w' ⟨rfl, q, rfl⟩
      go_wp2_with fail
      have hg : ((w.alloc (.cells #[.int .i64 0, .int .i64 0, .string ⟨#[]⟩, .int .i64 0] 31)).drewN q).heap[w.heap.size]? = some (.cells #[.int .i64 0, .int .i64 0, .string ⟨#[]⟩, .int .i64 0] 31) := alloc_new w _
      have hb := bl_drewN (bl_alloc (Below.refl _ w) (.cells #[.int .i64 0, .int .i64 0, .string ⟨#[]⟩, .int .i64 0] 31)) q
      exact bodyPost_ret (v := .agg (rnone).toArray) (rnext_end rfl (tok_set hg _ _ _ _) rfl rfl) rfl ⟨rfl, bl_set (bl_set (bl_set (bl_set hb _ _ (Nat.le_refl _)) _ _ (Nat.le_refl _)) _ _ (Nat.le_refl _)) _ _ (Nat.le_refl _)⟩
  · rw [if_neg hk]
    have d1 : ((k : Int) == 0) = false := by simpa using hk
    rcases hgs with g1 | ⟨g1, g2⟩
    all_goals
      go_enter Try.func22, Try.ntmps22
      go_wp2_with fail
      refine (C1.out _).mono ?_
      rintro e w' ⟨rfl, rfl⟩
      go_wp2_with fail
      refine (C2.out _).mono ?_
      rintro e w' ⟨rfl, rfl⟩
      go_wp2_with fail
      refine (CS.out _).mono ?_
      rintro e w' ⟨rfl, q, rfl⟩
      go_wp2_with fail
      try rw [E1.out]
      have hg : ((w.alloc (.cells #[.int .i64 0, .int .i64 0, .string ⟨#[]⟩, .int .i64 0] 31)).drewN q).heap[w.heap.size]? = some (.cells #[.int .i64 0, .int .i64 0, .string ⟨#[]⟩, .int .i64 0] 31) := alloc_new w _
      have hb := bl_drewN (bl_alloc (Below.refl _ w) (.cells #[.int .i64 0, .int .i64 0, .string ⟨#[]⟩, .int .i64 0] 31)) q
      exact bodyPost_ret (v := .agg (rtok s a ⟨4, k, 0⟩).toArray) (rnext_end rfl (tok_set hg _ _ _ _) rfl rfl) rfl ⟨rfl, bl_set (bl_set (bl_set (bl_set hb _ _ (Nat.le_refl _)) _ _ (Nat.le_refl _)) _ _ (Nat.le_refl _)) _ _ (Nat.le_refl _)⟩
theorem rnext_any (s : ByteArray) (a : Nat) (w : World) (hs : s.size ≤ 1000000) (ha : a < s.size) :
    Calls Try.prog 22 #[.string s, .int .i64 a] w fun e w' => e = .returned (.agg (rnext s a (nextH ((bl s).drop a))).toArray) ∧ Below w.heap.size w w' := by
  have hn : nextH ((bl s).drop a) = (if isSmall (s[a]) = true then ⟨1, runN isWord ((bl s).drop a), 0⟩
    else if isDigit (s[a]) = true then (match numOf (((bl s).drop a).take (runN isDigit ((bl s).drop a))) with
      | some n => if endsL isLetter (((bl s).drop a).drop (runN isDigit ((bl s).drop a))) = true then ⟨3, runN isDigit ((bl s).drop a), n⟩ else Hd.none
      | Option.none => Hd.none)
    else if (decide (65 ≤ (s[a]).toNat) && decide ((s[a]).toNat ≤ 72)) = true then (if endsL isLetter ((bl s).drop (a + 1)) = true ∧ endsL isDigit ((bl s).drop (a + 1)) = true then ⟨2, 1, (s[a]).toNat - 65⟩ else Hd.none)
    else if signN ((bl s).drop a) = 0 then Hd.none else ⟨4, signN ((bl s).drop a), 0⟩) := by
    have hcons := drop_cons ha
    generalize (bl s).drop (a + 1) = r at *
    rw [hcons]
    rfl
  rw [hn]
  by_cases h1 : isSmall (s[a]) = true
  · rw [if_pos h1]
    exact rnext_small s a w hs ha h1
  · have h1' : isSmall (s[a]) = false := by simpa using h1
    rw [if_neg h1]
    by_cases h2 : isDigit (s[a]) = true
    · rw [if_pos h2]
      have := rnext_digit s a w hs ha h1' h2
      revert this
      cases numOf (((bl s).drop a).take (runN isDigit ((bl s).drop a))) with
      | none => exact id
      | some n =>
        simp only
        split
        · exact id
        · exact id
    · have h2' : isDigit (s[a]) = false := by simpa using h2
      rw [if_neg h2]
      by_cases h3 : 65 ≤ (s[a]).toNat ∧ (s[a]).toNat ≤ 72
      · rw [if_pos (by simp [h3.1, h3.2])]
        have := rnext_type s a w hs ha h1' h2' h3.1 h3.2
        revert this
        split
        · exact id
        · exact id
      · rw [if_neg (by simp; omega)]
        have := rnext_sign s a w hs ha h1' h2' h3
        revert this
        split
        · exact id
        · exact id
end Go.Proofs.Ytkioabjdoccfeaa
