/- Chapter 2: LexPlaces: tokens stand where they say. -/
import Derived.Test.YtkioabjdoccfeaaLexA
import Derived.Deep.QuietTactic
import Derived.BigQuiet
namespace Go.Proofs.Ytkioabjdoccfeaa
open Go.RowKit
set_option linter.unusedVariables false
set_option linter.unusedSimpArgs false

theorem each_facts (l : Bytes) : (eachL l).2 = behind l (skipN l 0) (eachL l).1 ∧ (eachL l).2 ≤ l.length ∧ (∀ t ∈ (eachL l).1, skipN l 0 ≤ t.at_ ∧ t.at_ + t.text.length ≤ l.length ∧ 1 ≤ t.text.length) ∧ (eachL l).1.length ≤ l.length - skipN l 0 := by
  rw [eachL_eq]
  exact rest_facts l _ _ (Nat.le_refl _) (skipN_le (Nat.zero_le _))
theorem lex_bad {l : Bytes} (h : (lexL l).err ≠ 0) : (lexL l).toks = [] ∧ (lexL l).at_ < l.length := by
  have hf := each_facts l
  unfold lexL at *
  split
  · rename_i h1
    refine ⟨rfl, ?_⟩
    have hm : (eachL l).1.getD 200 Tok.zero ∈ (eachL l).1 := by
      rw [List.getD_eq_getElem?_getD, List.getElem?_eq_getElem h1]
      exact List.getElem_mem h1
    have := hf.2.2.1 _ hm
    show ((eachL l).1.getD 200 Tok.zero).at_ < _
    omega
  · rename_i h1
    rw [if_neg h1] at h
    split
    · rename_i h2
      exact ⟨rfl, h2⟩
    · rename_i h2
      rw [if_neg h2] at h
      exact absurd rfl h
theorem lex_ok {l : Bytes} (h : (lexL l).err = 0) : (lexL l).toks = (eachL l).1 ∧ (lexL l).at_ = l.length ∧ (eachL l).2 = l.length ∧ (lexL l).toks.length ≤ 200 := by
  have hf := each_facts l
  unfold lexL at *
  split
  · rename_i h1
    rw [if_pos h1] at h
    cases h
  · rename_i h1
    rw [if_neg h1] at h
    split
    · rename_i h2
      rw [if_pos h2] at h
      cases h
    · exact ⟨rfl, rfl, by omega, by show (eachL l).1.length ≤ 200; omega⟩
/-- Between tokens there are blanks alone. -/
def Gaps (l : Bytes) : Nat → List Tok → Prop
  | p, [] => p ≤ l.length ∧ ∀ j, p ≤ j → (hj : j < l.length) → isBlank (l[j]) = true
  | p, t :: ts => p ≤ t.at_ ∧ t.at_ + t.text.length ≤ l.length ∧ 1 ≤ t.text.length ∧ (∀ j, p ≤ j → j < t.at_ → (hj : j < l.length) → isBlank (l[j]) = true) ∧ t.text = (l.drop t.at_).take t.text.length ∧ Gaps l (t.at_ + t.text.length) ts
theorem skip_blank {l : Bytes} {p j : Nat} (h1 : p ≤ j) (h2 : j < skipN l p) (hj : j < l.length) : isBlank (l[j]) = true := by
  unfold skipN at h2
  have hm := runN_all (p := isBlank) (l := l.drop p)
  refine hm _ ?_
  have hlen : j - p < ((l.drop p).take (runN isBlank (l.drop p))).length := by
    rw [List.length_take, List.length_drop]
    omega
  have he : ((l.drop p).take (runN isBlank (l.drop p)))[j - p]'hlen = l[j] := by
    rw [List.getElem_take, List.getElem_drop]
    congr 1
    omega
  rw [← he]
  exact List.getElem_mem _
theorem gaps_of (l : Bytes) : ∀ (m p : Nat), l.length - p ≤ m → p ≤ l.length → ¬ (restFrom l (skipN l p)).2 < l.length → Gaps l p (restFrom l (skipN l p)).1 := by
  intro m
  induction m with
  | zero =>
    intro p h1 h2 h3
    have hs := skipN_ge l p
    rw [rest_end (by omega)]
    exact ⟨h2, fun j hj1 hj2 => by omega⟩
  | succ m ih =>
    intro p h1 h2 h3
    have hs := skipN_ge l p
    have hs2 := skipN_le h2
    by_cases ha : skipN l p < l.length
    · by_cases hk : (nextH (l.drop (skipN l p))).kind = 0
      · rw [rest_none hk] at h3
        exact absurd ha h3
      · have hp := nextH_pos hk
        have hle := nextH_le (l.drop (skipN l p))
        rw [List.length_drop] at hle
        have htl := tokOf_len l (skipN l p)
        rw [rest_some ha hk] at h3 ⊢
        refine ⟨hs, ?_, ?_, fun j hj1 hj2 hj => skip_blank hj1 hj2 hj, ?_, ?_⟩
        · rw [htl]; show skipN l p + _ ≤ _; omega
        · rw [htl]; exact hp
        · rw [htl]; rfl
        · rw [htl]
          exact ih _ (by show l.length - (skipN l p + _) ≤ m; omega) (by show skipN l p + _ ≤ _; omega) h3
    · rw [rest_end ha]
      exact ⟨h2, fun j hj1 hj => skip_blank hj1 (by omega) hj⟩
theorem lex_gaps {l : Bytes} (h : (lexL l).err = 0) : Gaps l 0 (lexL l).toks := by
  obtain ⟨h1, _, h3, _⟩ := lex_ok h
  rw [h1, eachL_eq]
  rw [eachL_eq] at h3
  exact gaps_of l _ 0 (Nat.le_refl _) (Nat.zero_le _) (by omega)
theorem gaps_drop {l : Bytes} {p I : Nat} {ts : List Tok} (h : Gaps l p (ts.drop I)) (hI : I < ts.length) : p ≤ (ts.getD I Tok.zero).at_ ∧ (ts.getD I Tok.zero).at_ + (ts.getD I Tok.zero).text.length ≤ l.length ∧ 1 ≤ (ts.getD I Tok.zero).text.length ∧ (∀ j, p ≤ j → j < (ts.getD I Tok.zero).at_ → (hj : j < l.length) → isBlank (l[j]) = true) ∧ (ts.getD I Tok.zero).text = (l.drop (ts.getD I Tok.zero).at_).take (ts.getD I Tok.zero).text.length ∧ Gaps l ((ts.getD I Tok.zero).at_ + (ts.getD I Tok.zero).text.length) (ts.drop (I + 1)) := by
  rw [List.drop_eq_getElem_cons hI] at h
  rw [List.getD_eq_getElem?_getD, List.getElem?_eq_getElem hI]
  exact h
set_option maxRecDepth 100000 in
set_option maxHeartbeats 4000000 in
theorem places_law (s0 : ByteArray) (w : World) (_hs : s0.size ≤ 140737488351232) :
    Calls Try.prog 4 #[.string s0] w fun e w' => e = .returned (.bool true) ∧ Below w.heap.size w w' := by
  have hz := short_size s0
  have hsh := fun w => short_any s0 w
  generalize s0.extract 0 (min 90 s0.size) = s at *
  have hlx := fun w => lex_at s (by omega) w
  have hl := bl_length s
  obtain ⟨ts, at0, er, hlex⟩ : ∃ ts at0 er, lexL (bl s) = ⟨ts, at0, er⟩ := ⟨_, _, _, rfl⟩
  have hbad := lex_bad (l := bl s)
  have hok := lex_ok (l := bl s)
  have hgap := lex_gaps (l := bl s)
  rw [hlex] at hlx hbad hok hgap
  dsimp only at hlx hbad hok hgap
  have HSH := Lib.hid hsh
  have HLX := Lib.hid hlx
  clear hsh hlx hlex
  go_enter Try.func4, Try.ntmps4
  by_cases her : er = 0
  · have hok1 := hok her
    have hg := hgap her
    subst her
    rw [hl] at hok1
    obtain ⟨h_1, hn, h_2, h200⟩ := hok1
    clear h_1 h_2
    subst hn
    have HG := Lib.hid hg
    have HL := Lib.hid hl
    clear hok hgap hbad hg hl
    have HLX2 : Hid (∀ w, Calls Try.prog 11 #[.string s] w fun e W' => ∃ A c, e = .returned (.tuple #[.slice A ts.length c, .int .i64 s.size, .int .i64 0]) ∧ ToksAt W' A ts.length ts ∧ Below w.heap.size w W') := Lib.hid HLX.out
    go_wp2_with fail
    refine (awake_any _).mono ?_
    rintro e w1 ⟨rfl, hb1⟩
    go_wp2_with fail
    refine (HSH.out _).mono ?_
    rintro e w' ⟨rfl, rfl⟩
    go_wp2_with fail
    refine (HLX2.out _).mono ?_
    rintro e w2 ⟨A, c, rfl, ht, hb2⟩
    have hb := bl_then hb1 hb2
    obtain ⟨n, hn⟩ : ∃ n, ts.length = n := ⟨_, rfl⟩
    rw [hn] at ht h200
    simp only [hn]
    have HN := Lib.hid hn
    have HT := Lib.hid ht
    clear hn ht hb1 hb2
    go_wp2_with fail
    go_loopw [7, 8] (fun a i wr => ∃ (I p : Nat), I ≤ n + 1 ∧ i = .int .i64 I ∧ a = .int .i64 p ∧ p ≤ s.size ∧ Hid (I ≤ n → Gaps (bl s) p (ts.drop I)) ∧ ToksAt wr A n ts ∧ Below w.heap.size w wr) (fun _ i _ => n + 1 - (intOf i).toNat)
    case atStart => exact ⟨0, 0, Nat.zero_le _, rfl, rfl, Nat.zero_le _, Lib.hid (fun _ => HG.out), HT.out, hb⟩
    case round =>
      obtain ⟨I, p, hI, rfl, rfl, hp, hgap, htr, hbr⟩ := hrel
      have HTR := Lib.hid htr
      clear htr
      by_cases hlt : I < n
      · have hg := gaps_drop (hgap.out (by omega)) (by rw [HN.out]; exact hlt)
        obtain ⟨g, rfl, hgl, hc⟩ := HTR.out.cells (by omega)
        have hcI := hc I hlt
        clear hc
        generalize ts.getD I Tok.zero = tk at *
        obtain ⟨tk0, ta, tx, tn⟩ := tk
        obtain ⟨T, hT⟩ : ∃ T, mkb tx = T := ⟨_, rfl⟩
        have hTs : T.size = tx.length := by rw [← hT, mkb_size]
        simp only [hT] at hcI
        dsimp only at hg
        rw [← hTs] at hg
        obtain ⟨g1, g2, g3, g4, g5, g6⟩ := hg
        rw [HL.out] at g2
        obtain ⟨_, c1, c2, _⟩ := hcI
        have hex : s.extract ta (ta + T.size) = T := by
          refine bl_inj ?_
          rw [bl_extract, ← hT, bl_mkb, List.drop_take, hT, Nat.add_sub_cancel_left]
          exact g5.symm
        have HEX := Lib.hid hex
        have G4 := Lib.hid g4
        have G6 := Lib.hid g6
        clear hex g4 g6 hT hTs g5
        have iI : (I : Int) < n := by omega
        have iI2 : (I : Int) ≤ n := by omega
        have e1 : decide ((ta : Int) < p) = false := decide_eq_false (by omega)
        have e2 : decide ((s.size : Int) < ta) = false := decide_eq_false (by omega)
        go_wp2_with fail
        go_loop [7] (fun a => ∃ j : Nat, p ≤ j ∧ j ≤ ta ∧ a = .int .i64 j) (fun a => ta - (intOf a).toNat)
        case atStart => exact ⟨p, Nat.le_refl _, g1, rfl⟩
        case round =>
          obtain ⟨j, hj1, hj2, rfl⟩ := hrel
          by_cases hjt : j < ta
          · have hbl := G4.out j hj1 hjt (by rw [HL.out]; omega)
            have ijs : (j : Int) < s.size := by omega
            have ijt : (j : Int) < ta := by omega
            have hjs : j < s.size := by omega
            have hbl2 : isBlank (s[j]) = true := hbl
            have h3 : s[j].toNat = 32 ∨ s[j].toNat = 9 ∨ s[j].toNat = 10 := by
              simpa [isBlank, or_assoc] using hbl2
            have h4 : (((s[j].toNat : Int) != 32) = false) ∨ (((s[j].toNat : Int) != 32) = true ∧ ((s[j].toNat : Int) != 9) = false) ∨ (((s[j].toNat : Int) != 32) = true ∧ ((s[j].toNat : Int) != 9) = true ∧ ((s[j].toNat : Int) != 10) = false) := by
              rcases h3 with h | h | h <;> rw [h] <;> decide
            clear hbl hbl2 h3
            rcases h4 with f1 | ⟨f1, f2⟩ | ⟨f1, f2, f3⟩
            all_goals
              go_wp2_with fail
              exact ⟨⟨j + 1, by omega, by omega, by simp⟩, by simp [intOf]; omega⟩
          · obtain rfl : j = ta := by omega
            have ijt : ¬ (j : Int) < j := by omega
            have b1 : ((T.size : Int) == 0) = false := beq_eq_false_iff_ne.2 (by omega)
            have b2 : decide ((s.size : Int) < j + T.size) = false := decide_eq_false (by omega)
            have b3 : (j : Int) + T.size ≤ s.size := by omega
            have b4 : (j : Int) ≤ (j : Int) + T.size := by omega
            have b5 : (0 : Int) ≤ (j : Int) + T.size := by omega
            have b6 : ((j : Int) + (T.size : Int)).toNat = j + T.size := by omega
            have h6 := HEX.out
            go_wp2_with fail
            go_quiet (fail)
            go_wp2_with fail
            go_roundw
            case rel => exact ⟨I + 1, j + T.size, by omega, by simp, by simp, g2, Lib.hid (fun _ => G6.out), HTR.out.below (bl_drewN (Below.refl _ _) _), bl_drewN hbr _⟩
            case measure => simp [intOf]; omega
      · by_cases hIn : I = n
        · subst hIn
          have hg : Gaps (bl s) p (ts.drop I) := hgap.out (Nat.le_refl _)
          rw [List.drop_of_length_le (by rw [HN.out]; exact Nat.le_refl _)] at hg
          have g4 := hg.2
          have G4 := Lib.hid g4
          clear hg g4
          have iI2 : (I : Int) ≤ I := Int.le_refl _
          have iI : ¬ (I : Int) < I := by omega
          have e1 : decide ((s.size : Int) < p) = false := decide_eq_false (by omega)
          have e2 : decide ((s.size : Int) < s.size) = false := decide_eq_false (by omega)
          go_wp2_with fail
          go_loop [7] (fun a => ∃ j : Nat, p ≤ j ∧ j ≤ s.size ∧ a = .int .i64 j) (fun a => s.size - (intOf a).toNat)
          case atStart => exact ⟨p, Nat.le_refl _, hp, rfl⟩
          case round =>
            obtain ⟨j, hj1, hj2, rfl⟩ := hrel
            by_cases hjt : j < s.size
            · have hbl := G4.out j hj1 (by rw [HL.out]; omega)
              have ijs : (j : Int) < s.size := by omega
              have hjs : j < s.size := by omega
              have hbl2 : isBlank (s[j]) = true := hbl
              have h3 : s[j].toNat = 32 ∨ s[j].toNat = 9 ∨ s[j].toNat = 10 := by
                simpa [isBlank, or_assoc] using hbl2
              have h4 : (((s[j].toNat : Int) != 32) = false) ∨ (((s[j].toNat : Int) != 32) = true ∧ ((s[j].toNat : Int) != 9) = false) ∨ (((s[j].toNat : Int) != 32) = true ∧ ((s[j].toNat : Int) != 9) = true ∧ ((s[j].toNat : Int) != 10) = false) := by
                rcases h3 with h | h | h <;> rw [h] <;> decide
              clear hbl hbl2 h3
              rcases h4 with f1 | ⟨f1, f2⟩ | ⟨f1, f2, f3⟩
              all_goals
                go_wp2_with fail
                exact ⟨⟨j + 1, by omega, by omega, by simp⟩, by simp [intOf]; omega⟩
            · obtain rfl : j = s.size := by omega
              have ijt : ¬ (s.size : Int) < s.size := by omega
              go_wp2_with fail
              go_roundw
              case rel => exact ⟨I + 1, s.size, by omega, by simp, by simp, Nat.le_refl _, Lib.hid (fun h => absurd h (by omega)), HTR.out, hbr⟩
              case measure => simp [intOf]
        · have iI : ¬ (I : Int) ≤ n := by omega
          go_wp2_with fail
          go_ret
          exact ⟨rfl, hbr⟩
  · obtain ⟨hts, hat⟩ := hbad her
    subst hts
    rw [hl] at hat
    have d1 : ((er : Int) != 0) = true := by simp; omega
    have d2 : (0 : Int) ≤ at0 := by omega
    have d3 : decide ((at0 : Int) < s.size) = true := decide_eq_true (by omega)
    clear hok hgap hbad hl her
    go_wp2_with fail
    refine (awake_any _).mono ?_
    rintro e w1 ⟨rfl, hb1⟩
    go_wp2_with fail
    refine (HSH.out _).mono ?_
    rintro e w' ⟨rfl, rfl⟩
    go_wp2_with fail
    refine (HLX.out _).mono ?_
    rintro e w2 ⟨A, c, rfl, ht, hb2⟩
    have hb := bl_then hb1 hb2
    clear ht
    go_wp2_with fail
    go_ret
    exact ⟨rfl, hb⟩
end Go.Proofs.Ytkioabjdoccfeaa
