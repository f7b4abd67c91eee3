/- Chapter 2: tokens joined: lex.Join, the reference's Join. -/
import Derived.Test.YtkioabjdoccfeaaLexMa
import Derived.Test.YtkioabjdoccfeaaLexBp
import Derived.Test.YtkioabjdoccfeaaLexJoin
namespace Go.Proofs.Ytkioabjdoccfeaa
open Go.RowKit
set_option linter.unusedVariables false
set_option linter.unusedSimpArgs false

/-- The strings told so far, and empty ones behind them. -/
def strRow (n : Nat) (ts : List Tok) : List Value := (ts.map fun t => Value.string (mkb t.text)) ++ List.replicate (n - ts.length) (.string ByteArray.empty)
theorem strRow_set {n I : Nat} {ts : List Tok} (h : I < ts.length) (hn : I < n) : (strRow n (ts.take I)).set I (.string (mkb (ts.getD I Tok.zero).text)) = strRow n (ts.take (I + 1)) := by
  have h1 : (ts.take I).length = I := by rw [List.length_take]; omega
  have h2 : (ts.take (I + 1)).length = I + 1 := by rw [List.length_take]; omega
  have h3 : ts.take (I + 1) = ts.take I ++ [ts.getD I Tok.zero] := by
    rw [List.take_add_one, List.getElem?_eq_getElem h, List.getD_eq_getElem?_getD, List.getElem?_eq_getElem h]
    rfl
  obtain ⟨k, hk⟩ : ∃ k, n - I = k + 1 := ⟨n - I - 1, by omega⟩
  unfold strRow
  rw [h1, h2, hk, show n - (I + 1) = k by omega, List.replicate_succ, h3]
  generalize ts.take I = u at *
  subst h1
  simp
theorem strRow_length {n : Nat} {ts : List Tok} (h : ts.length ≤ n) : (strRow n ts).length = n := by simp [strRow]; omega
theorem join_bytes (ts : List Tok) : Lib.join ((ts.map fun t => mkb t.text).map (·.data.toList)) (⟨#[32]⟩ : ByteArray).data.toList = joinB ts := by
  have : (ts.map fun t => mkb t.text).map (·.data.toList) = ts.map (·.text) := by
    rw [List.map_map]
    refine List.map_congr_left fun t _ => ?_
    simp [mkb]
  rw [this]
  rfl
set_option maxHeartbeats 4000000 in
theorem ljoin_any (A : Option Addr) (n c : Nat) (ts : List Tok) (w : World) (h : ToksAt w A n ts) (hn : n ≤ 1000) (hlen : (joinB ts).length ≤ 1000000) :
    Calls Try.prog 13 #[.slice A n c] w fun e w' => e = .returned (.string (mkb (joinB ts))) ∧ Below w.heap.size w w' := by
  have hi : ∃ i, Try.prog.info? 9 = some i ∧ i.zero = some (.string ByteArray.empty) ∧ i.size = 1 ∧ i.bytes = 16 := ⟨_, rfl, by kernel_rfl, by kernel_rfl, by kernel_rfl⟩
  obtain ⟨i, hi0, hi1, hi2, hi3⟩ := hi
  have hmk : ∀ W : World, (Instr.makeSlice 48 (.int .i64 (n : Int)) (.int .i64 (n : Int))).run Try.prog W = .ok (.slice (some ⟨W.heap.size, 0, none⟩) n n) (W.alloc (.cells (strRow n []).toArray 9 (0, 0))) := by
    intro W
    have := run_make (P := Try.prog) W 48 9 i _ Try.underlying48 hi0 hi1 .i64 .i64 n n (by omega) (by omega) (by rw [hi3]; omega) (by omega)
    rw [hi2] at this
    rw [this]
    congr 2
    simp [strRow, madeCells, Value.cells]
    refine Array.ext (by simp) fun i h1 h2 => ?_
    simp [Nat.mod_one]
  have hl := h.len
  generalize hps : strRow n [] = cs at *
  have HP := Lib.hid hps
  have HT := Lib.hid h
  have HL := Lib.hid hl
  have HLEN := Lib.hid hlen
  clear hps hi0 hi1 hi2 hi3 h hl hlen
  go_enter Try.func13, Try.ntmps13
  go_wp2_with fail
  have z0 : (w.alloc (.cells cs.toArray 9)).heap[w.heap.size]? = some (.cells cs.toArray 9 (0, 0)) := alloc_new w _
  have b0 : Below w.heap.size w (w.alloc (.cells cs.toArray 9)) := (Below.refl _ _).alloc (Nat.le_refl _) _
  generalize w.alloc (.cells cs.toArray 9) = w0 at *
  rw [← HP.out] at z0
  obtain ⟨K, hK⟩ : ∃ K, w.heap.size = K := ⟨_, rfl⟩
  have HK := Lib.hid hK
  rw [hK] at z0
  simp only [hK]
  clear hK
  have Z0 := Lib.hid z0
  clear z0
  go_loopw [11] (fun i wr => ∃ I : Nat, I ≤ n ∧ i = .int .i64 I ∧ wr.heap[K]? = some (.cells (strRow n (ts.take I)).toArray 9 (0, 0)) ∧ Below w.heap.size w wr) (fun i _ => n - (intOf i).toNat)
  case atStart => exact ⟨0, Nat.zero_le _, rfl, Z0.out, b0⟩
  case round =>
    obtain ⟨I, hI, rfl, hk, hb⟩ := hrel
    by_cases hlt : I < n
    · have ht := HT.out.below (bl_then (Below.refl _ _) hb)
      obtain ⟨g, rfl, hg, hc⟩ := ht.cells (by omega)
      have hcI := hc I hlt
      have HS := Lib.hid (strRow_set (n := n) (ts := ts) (I := I) (by rw [HL.out]; exact hlt) hlt)
      clear hc ht
      generalize ts.getD I Tok.zero = tk at *
      obtain ⟨tk0, ta, tx, tn⟩ := tk
      obtain ⟨T, hT⟩ : ∃ T, mkb tx = T := ⟨_, rfl⟩
      simp only [hT] at hcI
      obtain ⟨c0, c1, c2, c3⟩ := hcI
      have iI : (I : Int) < n := by omega
      have hkf := free_of_blk (alloc_old hk (.cells #[.int .i64 tk0, .int .i64 ta, .string T, .int .i64 tn] 31)) I
      have hkc := cell_of_blk (alloc_old hk (.cells #[.int .i64 tk0, .int .i64 ta, .string T, .int .i64 tn] 31)) I
      have hnone : (strRow n (ts.take I))[I]? ≠ none := by
        rw [ne_eq, List.getElem?_eq_none_iff, strRow_length (by rw [List.length_take, HL.out]; omega)]
        omega
      obtain ⟨u, hu⟩ := Option.ne_none_iff_exists'.1 hnone
      rw [hu] at hkc
      have hka := alloc_old hk (.cells #[.int .i64 tk0, .int .i64 ta, .string T, .int .i64 tn] 31)
      have HKA := Lib.hid hka
      have h6 := HS.out
      rw [hT] at h6
      have H6 := Lib.hid h6
      have hbx := hb.alloc hb.size (.cells #[.int .i64 tk0, .int .i64 ta, .string T, .int .i64 tn] 31)
      have hKw : w.heap.size ≤ K := Nat.le_of_eq HK.out
      clear hka h6 hT hu hnone hk hmk
      go_wp2_with fail
      refine ⟨⟨I + 1, hlt, by simp, ?_, hbx.setCell hKw _⟩, by simp [intOf]; omega⟩
      rw [← H6.out]
      exact setCell_same HKA.out _
    · obtain rfl : I = n := by omega
      rw [List.take_of_length_le (Nat.le_of_eq HL.out)] at hk
      have iI : ¬ (I : Int) < I := by omega
      have hx : (ts.map fun t => mkb t.text).length = I := by rw [List.length_map]; exact HL.out
      have hjn := Try.strings_Join K 0 I (ts.map fun t => mkb t.text) ⟨#[32]⟩ wr (by
        intro j x hj
        rw [Nat.zero_add, cell_of_blk hk j]
        unfold strRow
        rw [HL.out, Nat.sub_self, List.replicate_zero, List.append_nil]
        simp only [List.getElem?_map, Option.map_eq_some_iff] at hj ⊢
        obtain ⟨t, h1, rfl⟩ := hj
        exact ⟨t, h1, rfl⟩) (block_lt hk) (by rw [hx]; omega) (by rw [hx]; exact Nat.le_refl _) (by rw [join_bytes]; have := HLEN.out; omega)
      rw [hx, join_bytes] at hjn
      have HJ := Lib.hid hjn
      clear hjn hx hk hmk
      go_wp2_with fail
      refine HJ.out.mono ?_
      rintro e w2 ⟨rfl, hb2⟩
      go_wp2_with fail
      go_ret
      exact ⟨rfl, bl_then hb hb2⟩
set_option maxHeartbeats 4000000 in
theorem rjoin_any (A : Option Addr) (n c : Nat) (ts : List Tok) (w : World) (h : ToksAt w A n ts) (hn : n ≤ 1000) (hlen : ∀ I, I ≤ n → (joinB (ts.take I)).length ≤ 1000000) :
    Calls Try.prog 14 #[.slice A n c] w fun e w' => e = .returned (.string (mkb (joinB ts))) ∧ Below w.heap.size w w' := by
  have hl := h.len
  have HT := Lib.hid h
  have HL := Lib.hid hl
  have HLEN := Lib.hid hlen
  clear h hl hlen
  go_enter Try.func14, Try.ntmps14
  go_wp2_with fail
  go_loopw [3, 4] (fun s i wr => ∃ I : Nat, I ≤ n ∧ i = .int .i64 I ∧ s = .string (mkb (joinB (ts.take I))) ∧ Below w.heap.size w wr) (fun _ i _ => n - (intOf i).toNat)
  case atStart => exact ⟨0, Nat.zero_le _, rfl, rfl, Below.refl _ _⟩
  case round =>
    obtain ⟨I, hI, rfl, rfl, hb⟩ := hrel
    by_cases hlt : I < n
    · have ht := HT.out.below (bl_then (Below.refl _ _) hb)
      obtain ⟨g, rfl, hg, hc⟩ := ht.cells (by omega)
      have hc2 := (hc I hlt).2.2.1
      clear hc ht
      have h3 : ts.take (I + 1) = ts.take I ++ [ts.getD I Tok.zero] := by
        have h : I < ts.length := by rw [HL.out]; exact hlt
        rw [List.take_add_one, List.getElem?_eq_getElem h, List.getD_eq_getElem?_getD, List.getElem?_eq_getElem h]
        rfl
      have hs1 := HLEN.out I hI
      have hs2 := HLEN.out (I + 1) hlt
      rw [h3] at hs2
      have H3 := Lib.hid h3
      clear h3
      have iI : (I : Int) < n := by omega
      generalize ts.getD I Tok.zero = tk at *
      obtain ⟨tk0, ta, tx, tn⟩ := tk
      dsimp only at hc2
      have hts : (mkb tx).size ≤ 1000000 := by
        rw [mkb_size]
        cases hu : ts.take I with
        | nil => rw [hu] at hs2; simpa [joinB_one] using hs2
        | cons a r => rw [hu, joinB_snoc _ _ (by simp)] at hs2; simp at hs2; omega
      have hss : (mkb (joinB (ts.take I))).size ≤ 1000000 := by rw [mkb_size]; exact hs1
      clear hs1 hs2
      by_cases h0 : I = 0
      · subst h0
        have e0 : mkb (joinB (ts.take 0)) = ⟨#[]⟩ := rfl
        rw [e0]
        have e1 : (⟨#[]⟩ : ByteArray) ++ mkb tx = mkb (joinB (ts.take (0 + 1))) := by
          rw [H3.out]
          refine bl_inj ?_
          rw [bl_append, bl_mkb, bl_mkb]
          simp [joinB_one]
          rfl
        have E1 := Lib.hid e1
        clear e1 hss
        go_wp2_with fail
        exact ⟨⟨1, hlt, by simp, by rw [E1.out], hb⟩, by simp [intOf]; omega⟩
      · have iI0 : (0 : Int) < I := by omega
        have e1 : mkb (joinB (ts.take I)) ++ ⟨#[32]⟩ ++ mkb tx = mkb (joinB (ts.take (I + 1))) := by
          rw [H3.out]
          refine bl_inj ?_
          have hne : ts.take I ≠ [] := by
            intro h
            have := congrArg List.length h
            rw [List.length_take, HL.out] at this
            simp at this
            omega
          rw [bl_append, bl_append, bl_mkb, bl_mkb, bl_mkb, joinB_snoc _ _ hne]
          rfl
        have E1 := Lib.hid e1
        clear e1
        generalize mkb tx = T at *
        generalize mkb (joinB (ts.take I)) = S at *
        have hs32 : (S ++ ⟨#[32]⟩).size ≤ 1000001 := by
          rw [ByteArray.size_append]
          have : (⟨#[32]⟩ : ByteArray).size = 1 := rfl
          omega
        go_wp2_with fail
        exact ⟨⟨I + 1, hlt, by simp, by rw [E1.out], hb⟩, by simp [intOf]; omega⟩
    · obtain rfl : I = n := by omega
      have iI : ¬ (I : Int) < I := by omega
      rw [List.take_of_length_le (Nat.le_of_eq HL.out)]
      go_wp2_with fail
      go_ret
      exact ⟨rfl, hb⟩
end Go.Proofs.Ytkioabjdoccfeaa
