/- Chapter 2: next: the token that a text begins with. -/
import Derived.Test.YtkioabjdoccfeaaLexN
namespace Go.Proofs.Ytkioabjdoccfeaa
open Go.RowKit
set_option linter.unusedVariables false
set_option linter.unusedSimpArgs false

theorem results_c' {P : Program} {fn : Func} {p : Tmp} {ty : TypeId} (h : fn.results = #[.cell p ty]) (tmps : Array Value) (w : World) (g : Nat) (t : TypeId) (cs : Array Value) (fr : Nat × Nat) (d : TypeDesc)
    (hp : tmps.getD p undef = .pointer (some ⟨g, 0, none⟩)) (hg : w.heap[g]? = some (.cells cs t fr))
    (hu : P.underlying ty = some d) (hd : (match d with | .struct _ | .array _ _ => true | _ => false) = true) (hi : (P.info? ty).map (·.size) = some cs.size) :
    (results fn tmps).run P w = .ok (.agg cs) w := by
  have hp' : tmps[p]?.getD undef = .pointer (some ⟨g, 0, none⟩) := by simpa using hp
  simp [results, h, hp', asAddr, run_loadVar_row w g t ty cs fr d hg hu hd hi]
theorem tokInfo : (Try.prog.info? 31).map (·.size) = some 4 := by kernel_rfl
def hdCells (s : ByteArray) (h : Hd) : List Value := [.int .i64 h.kind, .int .i64 0, .string (s.extract 0 h.len), .int .i64 h.n]
theorem extract0 (s : ByteArray) : s.extract 0 0 = ⟨#[]⟩ := bl_inj (by rw [bl_extract]; rfl)
theorem hd_none (s : ByteArray) : hdCells s Hd.none = [.int .i64 0, .int .i64 0, .string ⟨#[]⟩, .int .i64 0] := by
  show [Value.int .i64 ((0 : Nat) : Int), .int .i64 0, .string (s.extract 0 0), .int .i64 ((0 : Nat) : Int)] = _
  rw [extract0]; rfl
theorem run_le_size (s : ByteArray) (p : UInt8 → Bool) : runN p (bl s) ≤ s.size := by rw [← bl_length]; exact runN_le _ _
/-- The end of next: what lies in its result's block. -/
theorem next_end {w W : World} {tmps : Array Value} {cs : Array Value} {fr : Nat × Nat} {v : List Value} (hp : tmps.getD 2 undef = .pointer (some ⟨w.heap.size, 0, none⟩)) (hg : W.heap[w.heap.size]? = some (.cells cs 31 fr)) (hv : cs = v.toArray) (hl : v.length = 4) :
    (results Try.f25 tmps).run Try.prog W = .ok (.agg v.toArray) W := by
  subst hv
  exact results_c' (p := 2) rfl _ _ w.heap.size 31 v.toArray fr _ hp hg Try.underlying31 rfl (by rw [tokInfo, List.size_toArray, hl])
set_option maxHeartbeats 2000000 in
theorem next_small (s : ByteArray) (w : World) (hs : s.size ≤ 1000000) (h0 : 0 < s.size) (h1 : isSmall (s[0]) = true) :
    Calls Try.prog 25 #[.string s] w fun e w' => e = .returned (.agg (hdCells s ⟨1, runN isWord (bl s), 0⟩).toArray) ∧ Below w.heap.size w w' := by
  have i0 : (0 : Int) < s.size := by omega
  have c1 := fun w => small_any (s[0]) w
  rw [h1] at c1
  have hle := run_le_size s isWord
  have C1 := Lib.hid c1
  clear c1 h1
  go_enter Try.func25, Try.ntmps25
  go_wp2_with fail
  refine (C1.out _).mono ?_
  rintro e w' ⟨rfl, rfl⟩
  go_wp2_with fail
  refine (run_word _ _ hs).mono ?_
  rintro e w' ⟨rfl, rfl⟩
  go_wp2_with fail
  refine bodyPost_ret (v := .agg (hdCells s ⟨1, runN isWord (bl s), 0⟩).toArray) (next_end rfl (alloc_new w _) rfl rfl) rfl ⟨rfl, bl_alloc (Below.refl _ w) _⟩
theorem bl_drop (s : ByteArray) (k : Nat) : bl (s.extract k s.size) = (bl s).drop k := by
  rw [bl_extract, List.take_of_length_le (by rw [bl_length]; exact Nat.le_refl _)]
theorem bl_take (s : ByteArray) (k : Nat) : bl (s.extract 0 k) = (bl s).take k := by rw [bl_extract, List.drop_zero]
theorem size_extract0 (s : ByteArray) (k : Nat) (h : k ≤ s.size) : (s.extract 0 k).size = k := by
  rw [← bl_length, bl_take, List.length_take, bl_length]; omega
theorem size_drop (s : ByteArray) (k : Nat) : (s.extract k s.size).size = s.size - k := by
  rw [← bl_length, bl_drop, List.length_drop, bl_length]
/-- The block of a token that is laid anew. -/
theorem tok_set {W : World} {g : Nat} {v0 v1 v2 v3 : Value} {fr : Nat × Nat} (h : W.heap[g]? = some (.cells #[v0, v1, v2, v3] 31 fr)) (x0 x1 x2 x3 : Value) :
    ((((W.setCell ⟨g, 0, none⟩ x0).setCell ⟨g, 1, none⟩ x1).setCell ⟨g, 2, none⟩ x2).setCell ⟨g, 3, none⟩ x3).heap[g]? = some (.cells #[x0, x1, x2, x3] 31 fr) := by
  have h0 : W.heap[g]? = some (.cells [v0, v1, v2, v3].toArray 31 fr) := h
  have h1 := setCell_same h0 (i := 0) x0
  have h2 := setCell_same h1 (i := 1) x1
  have h3 := setCell_same h2 (i := 2) x2
  have h4 := setCell_same h3 (i := 3) x3
  exact h4
set_option maxHeartbeats 4000000 in
theorem next_digit (s : ByteArray) (w : World) (hs : s.size ≤ 1000000) (h0 : 0 < s.size) (h1 : isSmall (s[0]) = false) (h2 : isDigit (s[0]) = true) :
    Calls Try.prog 25 #[.string s] w fun e w' => e = .returned (.agg (hdCells s (match numOf ((bl s).take (runN isDigit (bl s))) with
      | some n => if endsL isLetter ((bl s).drop (runN isDigit (bl s))) = true then ⟨3, runN isDigit (bl s), n⟩ else Hd.none
      | Option.none => Hd.none)).toArray) ∧ Below w.heap.size w w' := by
  have i0 : (0 : Int) < s.size := by omega
  have c1 := fun w => small_any (s[0]) w
  have c2 := fun w => digit_any (s[0]) w
  rw [h1] at c1
  rw [h2] at c2
  have hle := run_le_size s isDigit
  have hrun := fun w => run_digit s w hs
  have hall : ∀ c ∈ bl (s.extract 0 (runN isDigit (bl s))), isDigit c = true := by rw [bl_take]; exact runN_all
  have hsz := size_extract0 s _ hle
  have hnum := fun w => number_any (s.extract 0 (runN isDigit (bl s))) w (by rw [hsz]; omega) hall
  rw [bl_take] at hnum
  have hend := fun w => ends_letter (s.extract (runN isDigit (bl s)) s.size) w (by rw [size_drop]; omega)
  rw [bl_drop] at hend
  generalize runN isDigit (bl s) = k at *
  have ik : (k : Int) ≤ s.size := by omega
  obtain ⟨eb, heb⟩ : ∃ eb, endsL isLetter ((bl s).drop k) = eb := ⟨_, rfl⟩
  have C1 := Lib.hid c1
  have C2 := Lib.hid c2
  have CR := Lib.hid hrun
  rw [heb] at hend ⊢
  have CE := Lib.hid hend
  clear c1 c2 h1 h2 hall hsz hrun hend heb
  unfold numP at hnum
  cases hn : numOf ((bl s).take k) with
  | none =>
    rw [hn] at hnum
    have CN := Lib.hid hnum
    clear hn hnum
    go_enter Try.func25, Try.ntmps25
    go_wp2_with fail
    refine (C1.out _).mono ?_
    rintro e w' ⟨rfl, rfl⟩
    go_wp2_with fail
    refine (C2.out _).mono ?_
    rintro e w' ⟨rfl, rfl⟩
    go_wp2_with fail
    refine (CR.out _).mono ?_
    rintro e w' ⟨rfl, rfl⟩
    go_wp2_with fail
    refine (CN.out _).mono ?_
    rintro e w1 ⟨rfl, hb1⟩
    have hg := (hb1.block w.heap.size (by simp)).trans (alloc_new w _)
    have k0 := cell_of_blk hg 0
    have k1 := cell_of_blk hg 1
    have k2 := cell_of_blk hg 2
    have k3 := cell_of_blk hg 3
    have f0 := free_of_blk hg 0
    have f1 := free_of_blk hg 1
    have f2 := free_of_blk hg 2
    have f3 := free_of_blk hg 3
    simp only [List.getElem?_cons_zero, List.getElem?_cons_succ] at k0 k1 k2 k3
    have hb := bl_then (bl_alloc (Below.refl _ w) _) hb1
    have ts := fun x0 x1 x2 x3 => tok_set hg x0 x1 x2 x3
    have TS := Lib.hid ts
    have HG := Lib.hid hg
    clear hg ts hb1
    go_wp2_with fail
    exact bodyPost_ret (v := .agg (hdCells s Hd.none).toArray) (next_end rfl (TS.out _ _ _ _) (by first | rfl | (rw [hd_none])) rfl) rfl ⟨rfl, bl_set (bl_set (bl_set (bl_set hb _ _ (Nat.le_refl _)) _ _ (Nat.le_refl _)) _ _ (Nat.le_refl _)) _ _ (Nat.le_refl _)⟩
  | some n =>
    rw [hn] at hnum
    have CN := Lib.hid hnum
    clear hn hnum
    cases eb
    all_goals simp only [Bool.false_eq_true, if_false, if_true]
    · go_enter Try.func25, Try.ntmps25
      go_wp2_with fail
      refine (C1.out _).mono ?_
      rintro e w' ⟨rfl, rfl⟩
      go_wp2_with fail
      refine (C2.out _).mono ?_
      rintro e w' ⟨rfl, rfl⟩
      go_wp2_with fail
      refine (CR.out _).mono ?_
      rintro e w' ⟨rfl, rfl⟩
      go_wp2_with fail
      refine (CN.out _).mono ?_
      rintro e w1 ⟨rfl, hb1⟩
      have hg := (hb1.block w.heap.size (by simp)).trans (alloc_new w _)
      have k0 := cell_of_blk hg 0
      have k1 := cell_of_blk hg 1
      have k2 := cell_of_blk hg 2
      have k3 := cell_of_blk hg 3
      have f0 := free_of_blk hg 0
      have f1 := free_of_blk hg 1
      have f2 := free_of_blk hg 2
      have f3 := free_of_blk hg 3
      simp only [List.getElem?_cons_zero, List.getElem?_cons_succ] at k0 k1 k2 k3
      have hb := bl_then (bl_alloc (Below.refl _ w) _) hb1
      have ts := fun x0 x1 x2 x3 => tok_set hg x0 x1 x2 x3
      have TS := Lib.hid ts
      have HG := Lib.hid hg
      clear hg ts hb1
      go_wp2_with fail
      refine (CE.out _).mono ?_
      rintro e w' ⟨rfl, rfl⟩
      go_wp2_with fail
      exact bodyPost_ret (v := .agg (hdCells s Hd.none).toArray) (next_end rfl (TS.out _ _ _ _) (by first | rfl | (rw [hd_none])) rfl) rfl ⟨rfl, bl_set (bl_set (bl_set (bl_set hb _ _ (Nat.le_refl _)) _ _ (Nat.le_refl _)) _ _ (Nat.le_refl _)) _ _ (Nat.le_refl _)⟩
    · go_enter Try.func25, Try.ntmps25
      go_wp2_with fail
      refine (C1.out _).mono ?_
      rintro e w' ⟨rfl, rfl⟩
      go_wp2_with fail
      refine (C2.out _).mono ?_
      rintro e w' ⟨rfl, rfl⟩
      go_wp2_with fail
      refine (CR.out _).mono ?_
      rintro e w' ⟨rfl, rfl⟩
      go_wp2_with fail
      refine (CN.out _).mono ?_
      rintro e w1 ⟨rfl, hb1⟩
      have hg := (hb1.block w.heap.size (by simp)).trans (alloc_new w _)
      have k0 := cell_of_blk hg 0
      have k1 := cell_of_blk hg 1
      have k2 := cell_of_blk hg 2
      have k3 := cell_of_blk hg 3
      have f0 := free_of_blk hg 0
      have f1 := free_of_blk hg 1
      have f2 := free_of_blk hg 2
      have f3 := free_of_blk hg 3
      simp only [List.getElem?_cons_zero, List.getElem?_cons_succ] at k0 k1 k2 k3
      have hb := bl_then (bl_alloc (Below.refl _ w) _) hb1
      have ts := fun x0 x1 x2 x3 => tok_set hg x0 x1 x2 x3
      have TS := Lib.hid ts
      have HG := Lib.hid hg
      clear hg ts hb1
      go_wp2_with fail
      refine (CE.out _).mono ?_
      rintro e w' ⟨rfl, rfl⟩
      go_wp2_with fail
      exact bodyPost_ret (v := .agg (hdCells s ⟨3, k, n⟩).toArray) (next_end rfl (TS.out _ _ _ _) (by first | rfl | (rw [hd_none])) rfl) rfl ⟨rfl, bl_set (bl_set (bl_set (bl_set hb _ _ (Nat.le_refl _)) _ _ (Nat.le_refl _)) _ _ (Nat.le_refl _)) _ _ (Nat.le_refl _)⟩
set_option maxHeartbeats 4000000 in
theorem next_type (s : ByteArray) (w : World) (hs : s.size ≤ 1000000) (h0 : 0 < s.size) (h1 : isSmall (s[0]) = false) (h2 : isDigit (s[0]) = false) (h3 : 65 ≤ (s[0]).toNat) (h4 : (s[0]).toNat ≤ 72) :
    Calls Try.prog 25 #[.string s] w fun e w' => e = .returned (.agg (hdCells s (if endsL isLetter ((bl s).drop 1) = true ∧ endsL isDigit ((bl s).drop 1) = true then ⟨2, 1, (s[0]).toNat - 65⟩ else Hd.none)).toArray) ∧ Below w.heap.size w w' := by
  have i0 : (0 : Int) < s.size := by omega
  have i1 : (1 : Int) ≤ s.size := by omega
  have c1 := fun w => small_any (s[0]) w
  have c2 := fun w => digit_any (s[0]) w
  rw [h1] at c1
  rw [h2] at c2
  have hend := fun w => ends_letter (s.extract 1 s.size) w (by rw [size_drop]; omega)
  have hend2 := fun w => ends_digit (s.extract 1 s.size) w (by rw [size_drop]; omega)
  rw [bl_drop] at hend hend2
  obtain ⟨ea, hea⟩ : ∃ eb, endsL isLetter ((bl s).drop 1) = eb := ⟨_, rfl⟩
  obtain ⟨eb, heb⟩ : ∃ eb, endsL isDigit ((bl s).drop 1) = eb := ⟨_, rfl⟩
  rw [hea] at hend
  rw [heb] at hend2
  rw [hea, heb]
  obtain ⟨d, hdn⟩ : ∃ d, (s[0]).toNat = 65 + d := ⟨(s[0]).toNat - 65, by omega⟩
  have hd7 : d ≤ 7 := by omega
  have hsub : (s[0]).toNat - 65 = d := by omega
  rw [hsub]
  have g1 : decide ((65 : Int) ≤ (s[0]).toNat) = true := decide_eq_true (by omega)
  have g2 : decide (((s[0]).toNat : Int) ≤ 72) = true := decide_eq_true (by omega)
  have b1 : (65 : Int) ≤ (s[0]).toNat := by omega
  have b2 : ((s[0]).toNat : Int) ≤ 72 := by omega
  have C1 := Lib.hid c1
  have C2 := Lib.hid c2
  have CE := Lib.hid hend
  have CF := Lib.hid hend2
  have HD := Lib.hid hdn
  clear c1 c2 h1 h2 hend hend2 hea heb hsub hdn h3 h4
  cases ea
  · simp only [Bool.false_eq_true, false_and, if_false]
    go_enter Try.func25, Try.ntmps25
    go_wp2_with fail
    refine (C1.out _).mono ?_
    rintro e w' ⟨rfl, rfl⟩
    go_wp2_with fail
    refine (C2.out _).mono ?_
    rintro e w' ⟨rfl, rfl⟩
    go_wp2_with fail
    refine (CE.out _).mono ?_
    rintro e w' ⟨rfl, rfl⟩
    go_wp2_with fail
    exact bodyPost_ret (v := .agg (hdCells s Hd.none).toArray) (next_end rfl (alloc_new w _) (by rw [hd_none]) rfl) rfl ⟨rfl, bl_alloc (Below.refl _ w) _⟩
  · cases eb
    all_goals simp only [Bool.false_eq_true, and_false, and_self, if_false, if_true]
    all_goals
      go_enter Try.func25, Try.ntmps25
      go_wp2_with fail
      refine (C1.out _).mono ?_
      rintro e w' ⟨rfl, rfl⟩
      go_wp2_with fail
      refine (C2.out _).mono ?_
      rintro e w' ⟨rfl, rfl⟩
      go_wp2_with fail
      refine (CE.out _).mono ?_
      rintro e w' ⟨rfl, rfl⟩
      go_wp2_with fail
      refine (CF.out _).mono ?_
      rintro e w' ⟨rfl, rfl⟩
      go_wp2_with fail
    · exact bodyPost_ret (v := .agg (hdCells s Hd.none).toArray) (next_end rfl (alloc_new w _) (by rw [hd_none]) rfl) rfl ⟨rfl, bl_alloc (Below.refl _ w) _⟩
    · have he : (((s[0]).toNat : Int) - 65) = (d : Int) := by rw [HD.out]; omega
      rw [he]
      exact bodyPost_ret (v := .agg (hdCells s ⟨2, 1, d⟩).toArray) (next_end rfl (alloc_new w _) rfl rfl) rfl ⟨rfl, bl_alloc (Below.refl _ w) _⟩
set_option maxHeartbeats 4000000 in
theorem next_sign (s : ByteArray) (w : World) (hs : s.size ≤ 1000000) (h0 : 0 < s.size) (h1 : isSmall (s[0]) = false) (h2 : isDigit (s[0]) = false) (h3 : ¬ (65 ≤ (s[0]).toNat ∧ (s[0]).toNat ≤ 72)) :
    Calls Try.prog 25 #[.string s] w fun e w' => e = .returned (.agg (hdCells s (if signN (bl s) = 0 then Hd.none else ⟨4, signN (bl s), 0⟩)).toArray) ∧ Below w.heap.size w w' := by
  have i0 : (0 : Int) < s.size := by omega
  have c1 := fun w => small_any (s[0]) w
  have c2 := fun w => digit_any (s[0]) w
  rw [h1] at c1
  rw [h2] at c2
  have hsg := fun w => sign_any s w hs h0
  have hle := signN_le (bl s)
  rw [bl_length] at hle
  generalize signN (bl s) = k at *
  have C1 := Lib.hid c1
  have C2 := Lib.hid c2
  have CS := Lib.hid hsg
  clear c1 c2 h1 h2 hsg
  have hcase : (s[0]).toNat < 65 ∨ 72 < (s[0]).toNat := by omega
  clear h3
  by_cases hk : k = 0
  · subst hk
    rw [extract0] at CS
    rw [if_pos rfl]
    rcases hcase with g | g
    · have g1 : decide ((65 : Int) ≤ (s[0]).toNat) = false := decide_eq_false (by omega)
      go_enter Try.func25, Try.ntmps25
      go_wp2_with fail
      refine (C1.out _).mono ?_
      rintro e w' ⟨rfl, rfl⟩
      go_wp2_with fail
      refine (C2.out _).mono ?_
      rintro e w' ⟨rfl, rfl⟩
      go_wp2_with fail
      refine (CS.out _).mono ?_
      rintro e w' ⟨rfl, rfl⟩
      go_wp2_with fail
      exact bodyPost_ret (v := .agg (hdCells s Hd.none).toArray) (next_end rfl (alloc_new w _) (by rw [hd_none]) rfl) rfl ⟨rfl, bl_alloc (Below.refl _ w) _⟩
    · have g1 : decide ((65 : Int) ≤ (s[0]).toNat) = true := decide_eq_true (by omega)
      have g2 : decide (((s[0]).toNat : Int) ≤ 72) = false := decide_eq_false (by omega)
      go_enter Try.func25, Try.ntmps25
      go_wp2_with fail
      refine (C1.out _).mono ?_
      rintro e w' ⟨rfl, rfl⟩
      go_wp2_with fail
      refine (C2.out _).mono ?_
      rintro e w' ⟨rfl, rfl⟩
      go_wp2_with fail
      refine (CS.out _).mono ?_
      rintro e w' ⟨rfl, rfl⟩
      go_wp2_with fail
      exact bodyPost_ret (v := .agg (hdCells s Hd.none).toArray) (next_end rfl (alloc_new w _) (by rw [hd_none]) rfl) rfl ⟨rfl, bl_alloc (Below.refl _ w) _⟩
  · have hsz := size_extract0 s k hle
    have hne : (s.extract 0 k).toList.isEmpty = false := by
      rw [← decide_eq_emptyBytes]
      exact decide_eq_false (fun e => hk (by rw [← hsz, e]; rfl))
    rw [if_neg hk]
    obtain ⟨t, ht⟩ : ∃ t, hdCells s ⟨4, k, 0⟩ = [.int .i64 4, .int .i64 0, .string t, .int .i64 0] ∧ s.extract 0 k = t := ⟨_, rfl, rfl⟩
    obtain ⟨ht0, ht⟩ := ht
    rw [ht] at CS hne
    have HT := Lib.hid ht0.symm
    clear ht ht0 hsz
    rcases hcase with g | g
    · have g1 : decide ((65 : Int) ≤ (s[0]).toNat) = false := decide_eq_false (by omega)
      go_enter Try.func25, Try.ntmps25
      go_wp2_with fail
      refine (C1.out _).mono ?_
      rintro e w' ⟨rfl, rfl⟩
      go_wp2_with fail
      refine (C2.out _).mono ?_
      rintro e w' ⟨rfl, rfl⟩
      go_wp2_with fail
      refine (CS.out _).mono ?_
      rintro e w' ⟨rfl, rfl⟩
      go_wp2_with fail
      refine bodyPost_ret (v := .agg (hdCells s ⟨4, k, 0⟩).toArray) (next_end rfl (alloc_new w _) (by rw [← HT.out]) rfl) rfl ⟨rfl, bl_alloc (Below.refl _ w) _⟩
    · have g1 : decide ((65 : Int) ≤ (s[0]).toNat) = true := decide_eq_true (by omega)
      have g2 : decide (((s[0]).toNat : Int) ≤ 72) = false := decide_eq_false (by omega)
      go_enter Try.func25, Try.ntmps25
      go_wp2_with fail
      refine (C1.out _).mono ?_
      rintro e w' ⟨rfl, rfl⟩
      go_wp2_with fail
      refine (C2.out _).mono ?_
      rintro e w' ⟨rfl, rfl⟩
      go_wp2_with fail
      refine (CS.out _).mono ?_
      rintro e w' ⟨rfl, rfl⟩
      go_wp2_with fail
      refine bodyPost_ret (v := .agg (hdCells s ⟨4, k, 0⟩).toArray) (next_end rfl (alloc_new w _) (by rw [← HT.out]) rfl) rfl ⟨rfl, bl_alloc (Below.refl _ w) _⟩
theorem next_any (s : ByteArray) (w : World) (hs : s.size ≤ 1000000) (h0 : 0 < s.size) :
    Calls Try.prog 25 #[.string s] w fun e w' => e = .returned (.agg (hdCells s (nextH (bl s))).toArray) ∧ Below w.heap.size w w' := by
  have hcons := bl_cons h0
  have hn : nextH (bl s) = (if isSmall (s[0]) = true then ⟨1, runN isWord (bl s), 0⟩
    else if isDigit (s[0]) = true then (match numOf ((bl s).take (runN isDigit (bl s))) with
      | some n => if endsL isLetter ((bl s).drop (runN isDigit (bl s))) = true then ⟨3, runN isDigit (bl s), n⟩ else Hd.none
      | Option.none => Hd.none)
    else if (decide (65 ≤ (s[0]).toNat) && decide ((s[0]).toNat ≤ 72)) = true then (if endsL isLetter ((bl s).drop 1) = true ∧ endsL isDigit ((bl s).drop 1) = true then ⟨2, 1, (s[0]).toNat - 65⟩ else Hd.none)
    else if signN (bl s) = 0 then Hd.none else ⟨4, signN (bl s), 0⟩) := by
    generalize (bl s).drop 1 = r at *
    rw [hcons]
    rfl
  rw [hn]
  by_cases h1 : isSmall (s[0]) = true
  · rw [if_pos h1]
    exact next_small s w hs h0 h1
  · have h1' : isSmall (s[0]) = false := by simpa using h1
    rw [if_neg h1]
    by_cases h2 : isDigit (s[0]) = true
    · rw [if_pos h2]
      exact next_digit s w hs h0 h1' h2
    · have h2' : isDigit (s[0]) = false := by simpa using h2
      rw [if_neg h2]
      by_cases h3 : 65 ≤ (s[0]).toNat ∧ (s[0]).toNat ≤ 72
      · rw [if_pos (by simp [h3.1, h3.2])]
        exact next_type s w hs h0 h1' h2' h3.1 h3.2
      · rw [if_neg (by simp; omega)]
        exact next_sign s w hs h0 h1' h2' h3
end Go.Proofs.Ytkioabjdoccfeaa
