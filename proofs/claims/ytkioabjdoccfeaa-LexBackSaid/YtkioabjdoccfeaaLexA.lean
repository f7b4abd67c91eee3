/- Chapter 2: rows of tokens read; awake, short. -/
import Derived.Test.YtkioabjdoccfeaaLexX
namespace Go.Proofs.Ytkioabjdoccfeaa
open Go.RowKit
set_option linter.unusedVariables false
set_option linter.unusedSimpArgs false

theorem tokCells_at (ts : List Tok) : ∀ i, i < ts.length → ∀ j, j < 4 → (tokCells ts)[i * 4 + j]? = (ts.getD i Tok.zero).cells[j]? := by
  induction ts with
  | nil => intro i hi; simp at hi
  | cons c cs ih =>
    intro i hi j hj
    have hl : c.cells.length = 4 := rfl
    cases i with
    | zero =>
      simp only [tokCells, List.flatMap_cons, Nat.zero_mul, Nat.zero_add, List.getD_cons_zero]
      rw [List.getElem?_append_left (by omega)]
    | succ i =>
      have := ih i (by simpa using hi) j hj
      simp only [tokCells, List.flatMap_cons, List.getD_cons_succ] at this ⊢
      rw [List.getElem?_append_right (by omega), hl, show (i + 1) * 4 + j - 4 = i * 4 + j by omega]
      exact this
/-- A row of tokens that can be read. -/
structure ToksAt (w : World) (A : Option Addr) (n : Nat) (ts : List Tok) : Prop where
  len : ts.length = n
  cells : 0 < n → ∃ g, A = some ⟨g, 0, none⟩ ∧ g < w.heap.size ∧ ∀ i, i < n → w.cell? ⟨g, i * 4, none⟩ = some (.int .i64 (ts.getD i Tok.zero).kind) ∧ w.cell? ⟨g, i * 4 + 1, none⟩ = some (.int .i64 (ts.getD i Tok.zero).at_) ∧ w.cell? ⟨g, i * 4 + 2, none⟩ = some (.string (mkb (ts.getD i Tok.zero).text)) ∧ w.cell? ⟨g, i * 4 + 3, none⟩ = some (.int .i64 (ts.getD i Tok.zero).n)
theorem ToksAt.of_own {w : World} {lo : Nat} {A : Option Addr} {n c : Nat} {ts : List Tok} (h : w.ownsRow lo 31 4 (.slice A n c) n (tokCells ts)) : ToksAt w A n ts := by
  have hl : ts.length = n := by have := h.1; rw [tokCells_length] at this; omega
  refine ⟨hl, fun hp => ?_⟩
  obtain ⟨g, rfl, _, _, hg, hc⟩ := own_some h hp
  have key : ∀ i, i < n → ∀ j, j < 4 → w.cell? ⟨g, i * 4 + j, none⟩ = (ts.getD i Tok.zero).cells[j]? := by
    intro i hi j hj
    have h1 := tokCells_at ts i (by omega) j hj
    have h2 : j < (ts.getD i Tok.zero).cells.length := hj
    rw [List.getElem?_eq_getElem h2] at h1
    rw [List.getElem?_eq_getElem h2]
    exact hc _ _ h1
  exact ⟨g, rfl, hg, fun i hi => ⟨key i hi 0 (by decide), key i hi 1 (by decide), key i hi 2 (by decide), key i hi 3 (by decide)⟩⟩
theorem ToksAt.below {w w' : World} {A : Option Addr} {n : Nat} {ts : List Tok} (h : ToksAt w A n ts) (hb : Below w.heap.size w w') : ToksAt w' A n ts := by
  refine ⟨h.len, fun hp => ?_⟩
  obtain ⟨g, rfl, hg, hc⟩ := h.cells hp
  refine ⟨g, rfl, Nat.lt_of_lt_of_le hg hb.size, fun i hi => ?_⟩
  have e : ∀ o, w'.cell? ⟨g, o, none⟩ = w.cell? ⟨g, o, none⟩ := fun o => World.cell?_of_block (hb.block g hg)
  rw [e, e, e, e]
  exact hc i hi
/-- Lex, its tokens as they can be read. -/
theorem lex_at (s : ByteArray) (hs : s.size ≤ 1000000) (w : World) :
    Calls Try.prog 11 #[.string s] w fun e W' => ∃ A c, e = .returned (.tuple #[.slice A (lexL (bl s)).toks.length c, .int .i64 (lexL (bl s)).at_, .int .i64 (lexL (bl s)).err]) ∧ ToksAt W' A (lexL (bl s)).toks.length (lexL (bl s)).toks ∧ Below w.heap.size w W' :=
  (lex_any s hs w).mono fun e W' ⟨v, he, hrow, hb⟩ => by
    obtain ⟨A, c, rfl⟩ := own_form hrow
    exact ⟨A, c, he, ToksAt.of_own hrow, hb⟩
theorem each_at (s : ByteArray) (hs : s.size ≤ 1000000) (w : World) :
    Calls Try.prog 12 #[.string s] w fun e W' => ∃ A c, e = .returned (.slice A (eachL (bl s)).1.length c) ∧ ToksAt W' A (eachL (bl s)).1.length (eachL (bl s)).1 ∧ Below w.heap.size w W' :=
  (each_any s hs w).mono fun e W' ⟨v, he, hrow, hb⟩ => by
    obtain ⟨A, c, rfl⟩ := own_form hrow
    exact ⟨A, c, he, ToksAt.of_own hrow, hb⟩
theorem lex_one : lexL (bl ⟨#[97, 46, 120, 60, 61, 49, 50]⟩) = ⟨[⟨1, 0, [97], 0⟩, ⟨4, 1, [46], 0⟩, ⟨1, 2, [120], 0⟩, ⟨4, 3, [60, 61], 0⟩, ⟨3, 5, [49, 50], 12⟩], 7, 0⟩ := by kernel_rfl
theorem lex_two : lexL (bl ⟨#[97, 32, 63]⟩) = ⟨[], 2, 10⟩ := by kernel_rfl
set_option maxHeartbeats 1000000 in
theorem awake_any (w : World) : Calls Try.prog 8 #[] w fun e w' => e = .returned (.bool true) ∧ Below w.heap.size w w' := by
  have l1 := lex_at ⟨#[97, 46, 120, 60, 61, 49, 50]⟩ (by decide) w
  have l2 := fun w => lex_at ⟨#[97, 32, 63]⟩ (by decide) w
  rw [lex_one] at l1
  rw [lex_two] at l2
  have L1 := Lib.hid l1
  have L2 := Lib.hid l2
  clear l1 l2
  go_enter Try.func8, Try.ntmps8
  go_wp2_with fail
  refine L1.out.mono ?_
  rintro e w1 ⟨A, c, rfl, h1, hb1⟩
  go_wp2_with fail
  refine (L2.out _).mono ?_
  rintro e w2 ⟨A2, c2, rfl, h2, hb2⟩
  obtain ⟨g, rfl, hg, hc⟩ := (h1.below hb2).cells (by decide)
  have x3 : w2.cell? ⟨g, 14, none⟩ = some (.string ⟨#[60, 61]⟩) := (hc 3 (by decide)).2.2.1
  have x4 : w2.cell? ⟨g, 19, none⟩ = some (.int .i64 12) := (hc 4 (by decide)).2.2.2
  have hb := bl_then hb1 hb2
  clear hc h1 h2 hb1 hb2
  go_wp2_with fail
  go_ret
  exact ⟨rfl, hb⟩
theorem short_any (s : ByteArray) (w : World) : Calls Try.prog 9 #[.string s] w fun e w' => e = .returned (.string (s.extract 0 (min 90 s.size))) ∧ w = w' := by
  by_cases h : 90 < s.size
  · have h1 : (90 : Int) < s.size := by omega
    have hm : min 90 s.size = 90 := by omega
    rw [hm]
    go_enter Try.func9, Try.ntmps9
    go_wp2_with fail
    go_ret
    exact ⟨rfl, rfl⟩
  · have h1 : ¬ (90 : Int) < s.size := by omega
    have hm : min 90 s.size = s.size := by omega
    have he : s.extract 0 s.size = s := bl_inj (by rw [bl_extract, List.drop_zero, List.take_of_length_le (by rw [bl_length]; exact Nat.le_refl _)])
    rw [hm, he]
    clear hm he
    go_enter Try.func9, Try.ntmps9
    go_wp2_with fail
    go_ret
    exact ⟨rfl, rfl⟩
theorem short_size (s : ByteArray) : (s.extract 0 (min 90 s.size)).size ≤ 90 := by
  rw [size_extract0 _ _ (by omega)]; omega
end Go.Proofs.Ytkioabjdoccfeaa
