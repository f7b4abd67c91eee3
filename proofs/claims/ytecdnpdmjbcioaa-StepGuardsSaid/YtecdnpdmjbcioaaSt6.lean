/- Chapter 8: is a run barred? -/
import Derived.Test.YtecdnpdmjbcioaaSt5
namespace Go.Proofs.Ytecdnpdmjbcioaa
open Go.RowKit
set_option linter.unusedVariables false
set_option linter.unusedSimpArgs false

theorem two_of {w : World} {P : Nat} {x y : Value} {t : TypeId} (h : w.heap[P]? = some (.cells #[x, y] t (0, 0))) : w.cell? ⟨P, 0, none⟩ = some x ∧ w.cell? ⟨P, 1, none⟩ = some y := ⟨cell_of_blk (cs := [x, y]) h 0, cell_of_blk (cs := [x, y]) h 1⟩
/-- What the rules of the guard tell of a run's events. -/
def Meets (w : World) (RA : Option Addr) (RN RC : Nat) (e0 el : Ev) (m : Bool) : Prop := ∀ W X, Below w.heap.size w W → SetsAt W (some ⟨X, 0, none⟩) 3 [[e0], [], [el]] → Calls Try.prog 52 #[.slice RA RN RC, .slice (some ⟨X, 0, none⟩) 3 3] W fun e w' => e = .returned (.bool m) ∧ Below W.heap.size W w'
set_option maxHeartbeats 8000000 in
set_option maxRecDepth 20000 in
theorem guard_any {w : World} {P1 P2 P3 TA : Nat} {win : Int} {bk blk : Bool} {RA : Option Addr} {RN RC : Nat} {HA : Option Addr} {N1 hc S I io ic sc : Nat} {es : List Ev}
    (h1 : w.heap[P1]? = some (.cells #[.slice HA (N1 + 1) hc] 36 (0, 0))) (h2 : w.heap[P2]? = some (.cells #[.int .i64 0, .slice (some ⟨S, 0, none⟩) 1 sc, .bool blk] 42 (0, 0))) (h3 : w.heap[P3]? = some (.cells #[.slice (some ⟨TA, 0, none⟩) 2 2, .int .i64 win, .bool bk] 26 (0, 0)))
    (hh : EvsAt w HA (N1 + 1) es) (hN : N1 ≤ 100000) (e0 el : Ev) (h0 : es.getD 0 Ev.zero = e0) (hl : es.getD N1 Ev.zero = el) (hr : RunAt w S I io ic) (m : Bool) (hm : Meets w RA RN RC e0 el m) (r : Bool) (hres : (decide (el.typ = 2) && m) = r) :
    Calls Try.prog 51 #[.agg #[.int .i64 2, .slice RA RN RC], .pointer (some ⟨P1, 0, none⟩), .pointer (some ⟨P2, 0, none⟩), .pointer (some ⟨P3, 0, none⟩)] w fun e w' => e = .returned (.bool r) ∧ Below w.heap.size w w' := by
  have HSE := Lib.hid fun W (hW : Below w.heap.size w W) => sets2 (sc := sc) (hc := hc) (hh.below hW) hN e0 el h0 hl (hr.below hW) blk
  obtain ⟨hb, off, rfl, hsl⟩ := evs_at hh (i := N1) (by omega) el hl
  have hb3 : Below w.heap.size w (w.alloc (.cells #[.int .i64 2, .slice RA RN RC] 61)) := bl_alloc (Below.refl _ _) _
  have hz := alloc_new w (.cells #[.int .i64 2, .slice RA RN RC] 61)
  have hwN : IntKind.i64.wrap (N1 : Int) = N1 := IntWalk.i64_in _ (by omega)
  have hN2 : (N1 : Int) < N1 + 1 := by omega
  have HST : Hid (∀ W, Below (w.alloc (.cells #[.int .i64 2, .slice RA RN RC] 61)).heap.size (w.alloc (.cells #[.int .i64 2, .slice RA RN RC] 61)) W → (W.cell? ⟨w.heap.size, 0, none⟩ = some (.int .i64 2) ∧ W.cell? ⟨w.heap.size, 1, none⟩ = some (.slice RA RN RC)) ∧ W.cell? ⟨P1, 0, none⟩ = some (.slice (some ⟨hb, off, none⟩) (N1 + 1) hc) ∧ (W.cell? ⟨P2, 0, none⟩ = some (.int .i64 0) ∧ W.cell? ⟨P2, 1, none⟩ = some (.slice (some ⟨S, 0, none⟩) 1 sc) ∧ W.cell? ⟨P2, 2, none⟩ = some (.bool blk)) ∧ W.cell? ⟨P3, 0, none⟩ = some (.slice (some ⟨TA, 0, none⟩) 2 2) ∧ W.cell? ⟨hb, off + N1 * 6, none⟩ = some (.int .i64 el.typ)) := Lib.hid fun W hW => by
    have hb4 := bl_then hb3 hW
    exact ⟨two_of ((hW.block _ (block_lt hz)).trans hz), box_of ((hb4.block _ (block_lt h1)).trans h1), three_of ((hb4.block _ (block_lt h2)).trans h2), (three_of ((hb4.block _ (block_lt h3)).trans h3)).1, (hsl W hb4).1⟩
  have HB3 := Lib.hid hb3
  have HM := Lib.hid hm
  have HRES := Lib.hid hres
  clear h1 h2 h3 hh h0 hl hr hb3 hz hsl hm hres
  go_enter Try.func51, Try.ntmps51
  go_wp2_with fail
  obtain ⟨Q, hQ⟩ : ∃ Q, Q = w.heap.size := ⟨_, rfl⟩
  rw [← hQ] at HST
  try rw [← hQ]
  clear hQ
  generalize w.alloc (.cells #[.int .i64 2, .slice RA RN RC] 61) = w3 at *
  by_cases hty : el.typ = 2
  · obtain rfl : r = m := by rw [← HRES.out, decide_eq_true hty, Bool.true_and]
    have d1 : ((2 : Int) == el.typ) = true := by simp [hty]
    clear hty
    generalize el.typ = ty at *
    go_region_held3 (fun W => (W.cell? ⟨Q, 0, none⟩ = some (.int .i64 2) ∧ W.cell? ⟨Q, 1, none⟩ = some (.slice RA RN RC)) ∧ W.cell? ⟨P1, 0, none⟩ = some (.slice (some ⟨hb, off, none⟩) (N1 + 1) hc) ∧ (W.cell? ⟨P2, 0, none⟩ = some (.int .i64 0) ∧ W.cell? ⟨P2, 1, none⟩ = some (.slice (some ⟨S, 0, none⟩) 1 sc) ∧ W.cell? ⟨P2, 2, none⟩ = some (.bool blk)) ∧ W.cell? ⟨P3, 0, none⟩ = some (.slice (some ⟨TA, 0, none⟩) 2 2) ∧ W.cell? ⟨hb, off + N1 * 6, none⟩ = some (.int .i64 ty))
      (first | exact HST.out _ hb5' | exact HST.out _ hb4' | exact HST.out _ (bl_drew (Below.refl _ _)))
      (first
        | (go_at_call 53; refine (HSE.out _ (bl_then HB3.out (bl_drew (Below.refl _ _)))).mono ?_; rintro e w4 ⟨X, rfl, hss, hb4⟩; have hb4' := bl_then (bl_drew (Below.refl _ w3)) hb4; have HAL := Lib.hid (HM.out w4 X (bl_then HB3.out hb4') hss); clear hss)
        | (go_at_call 52; refine HAL.out.mono ?_; rintro e w5 ⟨rfl, hb5⟩; have hb5' := bl_then hb4' hb5))
    all_goals
      go_wp2_with fail
      go_ret
      exact ⟨rfl, bl_then HB3.out hb5'⟩
  · obtain rfl : r = false := by rw [← HRES.out, decide_eq_false hty, Bool.false_and]
    have d1 : ((2 : Int) == el.typ) = false := by simpa using fun h => hty h.symm
    clear hty
    obtain ⟨⟨a0, a2⟩, p1, ⟨b0, b1, b2⟩, p3, t0⟩ := HST.out _ (Below.refl _ _)
    generalize el.typ = ty at *
    go_quiet (fail)
    go_wp2_with fail
    go_ret
    exact ⟨rfl, bl_drewN HB3.out _⟩
set_option maxHeartbeats 8000000 in
set_option maxRecDepth 20000 in
theorem barred2 {w : World} {TA : Nat} {p : Bool} {NA : Option Addr} {NN NC : Nat} {RA : Option Addr} {RN RC : Nat} (h : Tab2 w TA p NA NN NC RA RN RC) (win : Int) (bk : Bool) {HA : Option Addr} {N1 hc S I io ic sc : Nat} {es : List Ev} (hh : EvsAt w HA (N1 + 1) es) (hN : N1 ≤ 100000) (e0 el : Ev) (h0 : es.getD 0 Ev.zero = e0) (hl : es.getD N1 Ev.zero = el) (hr : RunAt w S I io ic) (blk : Bool) (m : Bool) (hm : NN = 1 → Meets w RA RN RC e0 el m) (r : Bool) (hres : (decide (NN = 1) && (decide (el.typ = 2) && m)) = r) :
    Calls Try.prog 32 #[.agg #[.slice (some ⟨TA, 0, none⟩) 2 2, .int .i64 win, .bool bk], .slice HA (N1 + 1) hc, .agg #[.int .i64 0, .slice (some ⟨S, 0, none⟩) 1 sc, .bool blk]] w fun e w' => e = .returned (.bool r) ∧ Below w.heap.size w w' := by
  have hb3 : Below w.heap.size w (((w.alloc (.cells #[.slice (some ⟨TA, 0, none⟩) 2 2, .int .i64 win, .bool bk] 26)).alloc (.cells #[.slice HA (N1 + 1) hc] 36)).alloc (.cells #[.int .i64 0, .slice (some ⟨S, 0, none⟩) 1 sc, .bool blk] 42)) := bl_alloc (bl_alloc (bl_alloc (Below.refl _ _) _) _) _
  have hz : (((w.alloc (.cells #[.slice (some ⟨TA, 0, none⟩) 2 2, .int .i64 win, .bool bk] 26)).alloc (.cells #[.slice HA (N1 + 1) hc] 36)).alloc (.cells #[.int .i64 0, .slice (some ⟨S, 0, none⟩) 1 sc, .bool blk] 42)).heap[w.heap.size]? = some (.cells #[.slice (some ⟨TA, 0, none⟩) 2 2, .int .i64 win, .bool bk] 26 (0, 0)) := alloc_old (alloc_old (alloc_new w _) _) _
  have hy : (((w.alloc (.cells #[.slice (some ⟨TA, 0, none⟩) 2 2, .int .i64 win, .bool bk] 26)).alloc (.cells #[.slice HA (N1 + 1) hc] 36)).alloc (.cells #[.int .i64 0, .slice (some ⟨S, 0, none⟩) 1 sc, .bool blk] 42)).heap[w.heap.size + 1]? = some (.cells #[.slice HA (N1 + 1) hc] 36 (0, 0)) := alloc_old (alloc_at (by simp) _) _
  have hq : (((w.alloc (.cells #[.slice (some ⟨TA, 0, none⟩) 2 2, .int .i64 win, .bool bk] 26)).alloc (.cells #[.slice HA (N1 + 1) hc] 36)).alloc (.cells #[.int .i64 0, .slice (some ⟨S, 0, none⟩) 1 sc, .bool blk] 42)).heap[w.heap.size + 1 + 1]? = some (.cells #[.int .i64 0, .slice (some ⟨S, 0, none⟩) 1 sc, .bool blk] 42 (0, 0)) := alloc_at (by simp) _
  have ht := h.below hb3
  obtain ⟨x0, x1, x2⟩ := three_of hz
  obtain ⟨y0, y1, y2⟩ := three_of hq
  have c3 : (((w.alloc (.cells #[.slice (some ⟨TA, 0, none⟩) 2 2, .int .i64 win, .bool bk] 26)).alloc (.cells #[.slice HA (N1 + 1) hc] 36)).alloc (.cells #[.int .i64 0, .slice (some ⟨S, 0, none⟩) 1 sc, .bool blk] 42)).cell? ⟨TA, 3, none⟩ = some (.slice NA NN NC) := ht.cell 3
  have HC := Lib.hid (contains_b (NC := NC) ht.gs (.pointer (some ⟨w.heap.size + 1, 0, none⟩)) (.pointer (some ⟨w.heap.size + 1 + 1, 0, none⟩)) (.pointer (some ⟨w.heap.size, 0, none⟩)) (decide (el.typ = 2) && m) (fun hn W hW => guard_any ((hW.block _ (block_lt hy)).trans hy) ((hW.block _ (block_lt hq)).trans hq) ((hW.block _ (block_lt hz)).trans hz) (hh.below (bl_then hb3 hW)) hN e0 el h0 hl (hr.below (bl_then hb3 hW)) m (fun W2 X hW2 => hm hn W2 X (bl_then (bl_then hb3 hW) hW2)) _ rfl))
  rw [hres] at HC
  have HB3 := Lib.hid hb3
  clear h hh h0 hl hr hm hres hb3 hz hy hq ht
  go_enter Try.func32, Try.ntmps32
  go_wp2_with fail
  refine HC.out.mono ?_
  rintro e w5 ⟨rfl, hb5⟩
  have HB5 := Lib.hid (bl_then HB3.out hb5)
  clear hb5
  go_wp2_with fail
  go_ret
  exact ⟨rfl, HB5.out⟩
end Go.Proofs.Ytecdnpdmjbcioaa
