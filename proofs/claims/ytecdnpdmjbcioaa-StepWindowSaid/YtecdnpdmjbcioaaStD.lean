/- Chapter 8: StepWindow. -/
import Derived.Test.YtecdnpdmjbcioaaStC
import Derived.Test.YtecdnpdmjbcioaaRow
namespace Go.Proofs.Ytecdnpdmjbcioaa
open Go.RowKit
set_option linter.unusedVariables false
set_option linter.unusedSimpArgs false

theorem and7 (n : Int) : bits .and .i64 n 7 = n % 8 := by
  have h3 : (BitVec.ofInt 64 7).toNat = 2 ^ 3 - 1 := by decide
  have key : (BitVec.ofInt 64 n &&& BitVec.ofInt 64 7).toNat = (n % ((2 ^ 64 : Nat) : Int)).toNat % 2 ^ 3 := by
    rw [BitVec.toNat_and, BitVec.toNat_ofInt, h3, Nat.and_two_pow_sub_one_eq_mod]
  show IntKind.i64.wrap ((BitVec.ofInt 64 n &&& BitVec.ofInt 64 7).toNat : Nat) = n % 8
  rw [key, IntKind.wrap_i64]
  omega
theorem six (j : Nat) (h : j < 6) : j = 0 ∨ j = 1 ∨ j = 2 ∨ j = 3 ∨ j = 4 ∨ j = 5 := by omega
theorem hist_at {w : World} {H n : Nat} {ty : Int} (h : w.heap[H]? = some (.cells ((List.replicate ((n + 1) * 6) (Value.int .i64 0)).set (n * 6) (.int .i64 ty)).toArray 53 (0, 0))) : EvsAt w (some ⟨H, 0, none⟩) (n + 1) (List.replicate n Ev.zero ++ [⟨ty, 0, 0, 0, 0, 0⟩]) := by
  refine ⟨by simp, fun _ => ⟨H, 0, rfl, block_lt h, fun i hi j hj => ?_⟩⟩
  rw [cell_of_blk h (0 + i * 6 + j), List.getElem?_set, List.length_replicate, List.getElem?_replicate]
  by_cases hin : i = n
  · subst hin
    have e : (List.replicate i Ev.zero ++ [(⟨ty, 0, 0, 0, 0, 0⟩ : Ev)]).getD i Ev.zero = ⟨ty, 0, 0, 0, 0, 0⟩ := by simp [List.getD]
    rw [e]
    by_cases hj0 : j = 0
    · subst hj0
      rw [if_pos (by omega), if_pos (by omega)]
      rfl
    · rw [if_neg (by omega), if_pos (by omega)]
      rcases six j hj with rfl | rfl | rfl | rfl | rfl | rfl <;> first | rfl | omega
  · have e : (List.replicate n Ev.zero ++ [(⟨ty, 0, 0, 0, 0, 0⟩ : Ev)]).getD i Ev.zero = Ev.zero := by
      have : i < n := by omega
      simp [List.getD, List.getElem?_append_left, this]
    rw [e, if_neg (by omega), if_pos (by omega)]
    rcases six j hj with rfl | rfl | rfl | rfl | rfl | rfl <;> rfl
set_option maxRecDepth 20000 in
theorem make_hist (n : Nat) (hn : n ≤ 1000) (W : World) : (Instr.makeSlice 36 (.int .i64 (n : Int)) (.int .i64 (n : Int))).run Try.prog W = .ok (.slice (some ⟨W.heap.size, 0, none⟩) n n) (W.alloc (.cells (List.replicate (n * 6) (Value.int .i64 0)).toArray 53 (0, 0))) := by
  obtain ⟨i, hi0, hi1, hi2, hi3⟩ := info_parts infoEv
  have := run_make (P := Try.prog) W 36 53 i _ Try.underlying36 hi0 hi1 .i64 .i64 n n (by omega) (by omega) (by rw [hi3]; omega) (by omega)
  rw [hi2] at this
  rw [this, Int.toNat_natCast]
  have : madeCells (Value.agg #[.int .i64 0, .int .i64 0, .int .i64 0, .int .i64 0, .int .i64 0, .int .i64 0]).cells (n * 6) = (List.replicate (n * 6) (Value.int .i64 0)).toArray := by
    apply Array.ext'
    refine List.ext_getElem? fun j => ?_
    by_cases hj : j < n * 6
    · simp [madeCells, Value.cells, hj]
      rcases six (j % 6) (Nat.mod_lt _ (by decide)) with e | e | e | e | e | e <;> rw [e] <;> rfl
    · rw [List.getElem?_eq_none (by simp [madeCells]; omega), List.getElem?_eq_none (by simp; omega)]
  rw [this]
theorem hist_form (m k : Nat) (v u : Value) : (Array.replicate m v).setIfInBounds k u = ((List.replicate m v).set k u).toArray := by
  rw [← List.toArray_replicate, List.setIfInBounds_toArray]
theorem Ph.first {w wx : World} {v : Value} {l : List (Int × Value × Bool)} {kb sB tB : Bool} (h : Ph w wx v l true kb sB tB) (n : Nat) (hn : (1 + ((if sB = true then 1 else 0) + (if tB = true then 1 else 0))) = n) : ∃ g c, v = .slice (some ⟨g, 0, none⟩) n c ∧ wx.cell? ⟨g, 0, none⟩ = some (.int .i64 0) ∧ wx.cell? ⟨g, 2, none⟩ = some (.bool kb) ∧ n ≤ c := by
  have hlen : l.length = n := by
    have := congrArg List.length h.ats
    rw [List.length_map] at this
    rw [this, ← hn]
    cases sB <;> cases tB <;> simp
  obtain ⟨A, c, rfl, hat⟩ := h.at_
  rw [hlen] at hat ⊢
  obtain ⟨g, rfl, hc, hg, hcell⟩ := hat (by omega)
  cases hl : l with
  | nil => rw [hl] at hlen; simp at hlen; omega
  | cons x xs =>
    have := hcell 0 x (by rw [hl]; rfl)
    have ha := h.ats
    rw [hl] at ha
    simp only [List.map_cons, if_true, List.singleton_append, List.cons.injEq, Prod.mk.injEq] at ha
    obtain ⟨⟨e1, e2⟩, _⟩ := ha
    rw [e1, e2] at this
    exact ⟨g, c, rfl, by simpa using this.1, by simpa using this.2.2, hc⟩
set_option maxHeartbeats 8000000 in
set_option maxRecDepth 20000 in
theorem window_law (window far kind : Int) (w : World) (hw : -9223372036854775808 ≤ window ∧ window ≤ 9223372036854775807) (hf : -9223372036854775808 ≤ far ∧ far ≤ 9223372036854775807) (hk : -9223372036854775808 ≤ kind ∧ kind ≤ 9223372036854775807) :
    Calls Try.prog 4 #[.int .i64 window, .int .i64 far, .int .i64 kind] w fun e w' => e = .returned (.bool true) ∧ Below w.heap.size w w' := by
  have ha7 := and7
  obtain ⟨win, hwn⟩ : ∃ win, 1 + window % 8 = win := ⟨_, rfl⟩
  obtain ⟨ty, hty⟩ : ∃ ty, kind % 8 = ty := ⟨_, rfl⟩
  have h1 : 1 ≤ win := by omega
  have h2 : win ≤ 8 := by omega
  have hr1 := Int.tmod_lt_of_pos far (b := 12) (by decide)
  have hr2 : -12 < far.tmod 12 := by
    have := Int.natAbs_tmod far 12
    rw [show Int.natAbs 12 = 12 from rfl] at this
    omega
  have hq0 : wrap64 (far.tmod 12 + 12) = far.tmod 12 + 12 := by unfold wrap64; omega
  have hs1 := Int.tmod_lt_of_pos (far.tmod 12 + 12) (b := 12) (by decide)
  have hs2 : 0 ≤ (far.tmod 12 + 12).tmod 12 := Int.tmod_nonneg 12 (by omega)
  obtain ⟨N1, hn⟩ : ∃ N1 : Nat, wrap64 (1 + (wrap64 (far.tmod 12 + 12)).tmod 12) = (N1 : Int) := ⟨(1 + (far.tmod 12 + 12).tmod 12).toNat, by rw [hq0, show wrap64 (1 + (far.tmod 12 + 12).tmod 12) = 1 + (far.tmod 12 + 12).tmod 12 by unfold wrap64; omega]; omega⟩
  have hn1 : 1 ≤ N1 ∧ N1 ≤ 12 := by
    rw [hq0, show wrap64 (1 + (far.tmod 12 + 12).tmod 12) = 1 + (far.tmod 12 + 12).tmod 12 by unfold wrap64; omega] at hn
    omega
  obtain ⟨n1, n12⟩ := hn1
  have hmk : ∀ W : World, (Instr.makeSlice 36 (.int .i64 ((N1 : Int) + 1)) (.int .i64 ((N1 : Int) + 1))).run Try.prog W = .ok (.slice (some ⟨W.heap.size, 0, none⟩) (N1 + 1) (N1 + 1)) (W.alloc (.cells (List.replicate ((N1 + 1) * 6) (Value.int .i64 0)).toArray 53 (0, 0))) := fun W => make_hist (N1 + 1) (by omega) W
  have hlt : N1 < N1 + 1 := by omega
  clear hw hf hk hq0 hr1 hr2 hs1 hs2
  go_enter Try.func4, Try.ntmps4
  go_wp2_with fail
  refine (awake_any _).mono ?_
  rintro e w1 ⟨rfl, hb1⟩
  have HB1 := Lib.hid hb1
  clear hb1
  go_wp2_with fail
  have hb : Below w1.heap.size w1 (((((w1.alloc (.cells #[.int .i64 0, .bool false, .slice none 0 0, .slice none 0 0, .int .i64 1, .bool false, .slice none 0 0, .slice none 0 0] 49)).alloc (.cells #[.slice (some ⟨w1.heap.size, 0, none⟩) 2 2, .int .i64 win, .bool false] 26)).alloc (.cells ((Array.replicate ((N1 + 1) * 6) (Value.int .i64 0)).setIfInBounds (N1 * 6) (.int .i64 ty)) 53)).alloc (.cells #[.int .i64 0] 3)).alloc (.cells #[.slice (some ⟨w1.heap.size + 1 + 1 + 1, 0, none⟩) 1 1] 22)) := bl_alloc (bl_alloc (bl_alloc (bl_alloc (bl_alloc (Below.refl _ _) _) _) _) _) _
  have htab : Tab2 (((((w1.alloc (.cells #[.int .i64 0, .bool false, .slice none 0 0, .slice none 0 0, .int .i64 1, .bool false, .slice none 0 0, .slice none 0 0] 49)).alloc (.cells #[.slice (some ⟨w1.heap.size, 0, none⟩) 2 2, .int .i64 win, .bool false] 26)).alloc (.cells ((Array.replicate ((N1 + 1) * 6) (Value.int .i64 0)).setIfInBounds (N1 * 6) (.int .i64 ty)) 53)).alloc (.cells #[.int .i64 0] 3)).alloc (.cells #[.slice (some ⟨w1.heap.size + 1 + 1 + 1, 0, none⟩) 1 1] 22)) w1.heap.size false none 0 0 none 0 0 := tab_none false (alloc_old (alloc_old (alloc_old (alloc_old (alloc_new w1 _) _) _) _) _)
  have hev := hist_at (w := (((((w1.alloc (.cells #[.int .i64 0, .bool false, .slice none 0 0, .slice none 0 0, .int .i64 1, .bool false, .slice none 0 0, .slice none 0 0] 49)).alloc (.cells #[.slice (some ⟨w1.heap.size, 0, none⟩) 2 2, .int .i64 win, .bool false] 26)).alloc (.cells ((Array.replicate ((N1 + 1) * 6) (Value.int .i64 0)).setIfInBounds (N1 * 6) (.int .i64 ty)) 53)).alloc (.cells #[.int .i64 0] 3)).alloc (.cells #[.slice (some ⟨w1.heap.size + 1 + 1 + 1, 0, none⟩) 1 1] 22))) (H := w1.heap.size + 1 + 1) (n := N1) (ty := ty) (by rw [← hist_form]; exact alloc_old (alloc_old (alloc_at (by simp) _) _) _)
  have hrun : RunAt (((((w1.alloc (.cells #[.int .i64 0, .bool false, .slice none 0 0, .slice none 0 0, .int .i64 1, .bool false, .slice none 0 0, .slice none 0 0] 49)).alloc (.cells #[.slice (some ⟨w1.heap.size, 0, none⟩) 2 2, .int .i64 win, .bool false] 26)).alloc (.cells ((Array.replicate ((N1 + 1) * 6) (Value.int .i64 0)).setIfInBounds (N1 * 6) (.int .i64 ty)) 53)).alloc (.cells #[.int .i64 0] 3)).alloc (.cells #[.slice (some ⟨w1.heap.size + 1 + 1 + 1, 0, none⟩) 1 1] 22)) (w1.heap.size + 1 + 1 + 1 + 1) (w1.heap.size + 1 + 1 + 1) 0 1 := run_of_blks (alloc_at (by simp) _) (alloc_old (alloc_at (by simp) _) _)
  have e0 : (List.replicate N1 Ev.zero ++ [(⟨ty, 0, 0, 0, 0, 0⟩ : Ev)]).getD 0 Ev.zero = Ev.zero := by
    have : 0 < N1 := by omega
    simp [List.getD, List.getElem?_append_left, this]
  have el : (List.replicate N1 Ev.zero ++ [(⟨ty, 0, 0, 0, 0, 0⟩ : Ev)]).getD N1 Ev.zero = ⟨ty, 0, 0, 0, 0, 0⟩ := by simp [List.getD]
  refine (step2 htab win h1 h2 false hev n1 (by omega) _ _ e0 el hrun (Nat.le_refl _) (Nat.le_refl _) false (fun h => (by cases h)) false (fun hn => (by cases hn)) false true false false (decide (ty = 1)) rfl rfl rfl rfl rfl).mono ?_
  rintro e w2 ⟨hb2, hres⟩
  have HB2 := Lib.hid (bl_then (bl_then HB1.out hb) hb2)
  have HN := Lib.hid hn
  clear hb hb2 htab hev hrun e0 el
  rcases hres with ⟨hwin, rfl⟩ | ⟨hwin, v, l, rfl, hph⟩
  · go_wp2_with fail
    go_ret
    exact ⟨rfl, HB2.out⟩
  · by_cases hy : ty = 1
    · rw [decide_eq_true hy] at hph
      obtain ⟨g, c, rfl, g0, g2, hc⟩ := hph.first 2 rfl
      clear hph
      have hy1 : (ty == 1) = true := by simp [hy]
      go_wp2_with fail
      go_ret
      exact ⟨rfl, HB2.out⟩
    · rw [decide_eq_false hy] at hph
      obtain ⟨g, c, rfl, g0, g2, hc⟩ := hph.first 1 rfl
      clear hph
      have hy1 : (ty == 1) = false := by simp [hy]
      go_wp2_with fail
      go_ret
      exact ⟨rfl, HB2.out⟩
end Go.Proofs.Ytecdnpdmjbcioaa
