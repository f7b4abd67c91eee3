/- Chapter 8: does a cell take an event; is a run barred? (Printed by sttakes.py.) -/
import Derived.Test.YtecdnpdmjbcioaaSt4
import Derived.Deep.RegionHeld3
namespace Go.Proofs.Ytecdnpdmjbcioaa
open Go.RowKit
set_option linter.unusedVariables false
set_option linter.unusedSimpArgs false

theorem four_of {w : World} {P : Nat} {x y z u : Value} {t : TypeId} (h : w.heap[P]? = some (.cells #[x, y, z, u] t (0, 0))) : w.cell? ⟨P, 0, none⟩ = some x ∧ w.cell? ⟨P, 1, none⟩ = some y ∧ w.cell? ⟨P, 2, none⟩ = some z ∧ w.cell? ⟨P, 3, none⟩ = some u := ⟨cell_of_blk (cs := [x, y, z, u]) h 0, cell_of_blk (cs := [x, y, z, u]) h 1, cell_of_blk (cs := [x, y, z, u]) h 2, cell_of_blk (cs := [x, y, z, u]) h 3⟩
set_option maxHeartbeats 8000000 in
set_option maxRecDepth 20000 in
theorem takes0 {w : World} {TA : Nat} {p : Bool} {NA : Option Addr} {NN NC : Nat} {RA : Option Addr} {RN RC : Nat} (h : Tab2 w TA p NA NN NC RA RN RC) (win : Int) (bk : Bool) {HA : Option Addr} {N1 hc S I io ic sc : Nat} {es : List Ev} (hh : EvsAt w HA (N1 + 1) es) (hN : N1 ≤ 100000) (e0 el : Ev) (h0 : es.getD 0 Ev.zero = e0) (hl : es.getD N1 Ev.zero = el) (hr : RunAt w S I io ic) (blk : Bool) (r : Bool) (hres : decide (el.typ = 0) = r) :
    Calls Try.prog 33 #[.agg #[.slice (some ⟨TA, 0, none⟩) 2 2, .int .i64 win, .bool bk], .slice HA (N1 + 1) hc, .agg #[.int .i64 0, .slice (some ⟨S, 0, none⟩) 1 sc, .bool blk], .int .i64 0] w fun e w' => e = .returned (.bool r) ∧ Below w.heap.size w w' := by
  have HSE := Lib.hid fun W (hW : Below w.heap.size w W) => sets0 (sc := sc) (hc := hc) (hh.below hW) hN e0 el h0 hl (hr.below hW) blk
  obtain ⟨hb, off, rfl, hsl⟩ := evs_at hh (i := N1) (by omega) el hl
  have hb2 : Below w.heap.size w ((w.alloc (.cells #[.slice (some ⟨TA, 0, none⟩) 2 2, .int .i64 win, .bool bk] 26)).alloc (.cells #[.int .i64 0, .slice (some ⟨S, 0, none⟩) 1 sc, .bool blk] 42)) := bl_alloc (bl_alloc (Below.refl _ _) _) _
  have hb3 : Below w.heap.size w (((w.alloc (.cells #[.slice (some ⟨TA, 0, none⟩) 2 2, .int .i64 win, .bool bk] 26)).alloc (.cells #[.int .i64 0, .slice (some ⟨S, 0, none⟩) 1 sc, .bool blk] 42)).alloc (.cells #[.int .i64 0, .bool p, .slice none 0 0, .slice NA NN NC] 49)) := bl_alloc hb2 _
  have hz : ((w.alloc (.cells #[.slice (some ⟨TA, 0, none⟩) 2 2, .int .i64 win, .bool bk] 26)).alloc (.cells #[.int .i64 0, .slice (some ⟨S, 0, none⟩) 1 sc, .bool blk] 42)).heap[w.heap.size]? = some (.cells #[.slice (some ⟨TA, 0, none⟩) 2 2, .int .i64 win, .bool bk] 26 (0, 0)) := alloc_old (alloc_new w _) _
  have hq : (((w.alloc (.cells #[.slice (some ⟨TA, 0, none⟩) 2 2, .int .i64 win, .bool bk] 26)).alloc (.cells #[.int .i64 0, .slice (some ⟨S, 0, none⟩) 1 sc, .bool blk] 42)).alloc (.cells #[.int .i64 0, .bool p, .slice none 0 0, .slice NA NN NC] 49)).heap[w.heap.size + 1]? = some (.cells #[.int .i64 0, .slice (some ⟨S, 0, none⟩) 1 sc, .bool blk] 42 (0, 0)) := alloc_old (alloc_at (by simp) _) _
  have hcl : (((w.alloc (.cells #[.slice (some ⟨TA, 0, none⟩) 2 2, .int .i64 win, .bool bk] 26)).alloc (.cells #[.int .i64 0, .slice (some ⟨S, 0, none⟩) 1 sc, .bool blk] 42)).alloc (.cells #[.int .i64 0, .bool p, .slice none 0 0, .slice NA NN NC] 49)).heap[w.heap.size + 1 + 1]? = some (.cells #[.int .i64 0, .bool p, .slice none 0 0, .slice NA NN NC] 49 (0, 0)) := alloc_at (by simp) _
  have ht := h.below hb2
  obtain ⟨x0, x1, x2⟩ := three_of hz
  have c0 : ((w.alloc (.cells #[.slice (some ⟨TA, 0, none⟩) 2 2, .int .i64 win, .bool bk] 26)).alloc (.cells #[.int .i64 0, .slice (some ⟨S, 0, none⟩) 1 sc, .bool blk] 42)).cell? ⟨TA, 0, none⟩ = some (.int .i64 0) := ht.cell 0
  have c1 : ((w.alloc (.cells #[.slice (some ⟨TA, 0, none⟩) 2 2, .int .i64 win, .bool bk] 26)).alloc (.cells #[.int .i64 0, .slice (some ⟨S, 0, none⟩) 1 sc, .bool blk] 42)).cell? ⟨TA, 1, none⟩ = some (.bool p) := ht.cell 1
  have c2 : ((w.alloc (.cells #[.slice (some ⟨TA, 0, none⟩) 2 2, .int .i64 win, .bool bk] 26)).alloc (.cells #[.int .i64 0, .slice (some ⟨S, 0, none⟩) 1 sc, .bool blk] 42)).cell? ⟨TA, 2, none⟩ = some (.slice none 0 0) := ht.cell 2
  have c3 : ((w.alloc (.cells #[.slice (some ⟨TA, 0, none⟩) 2 2, .int .i64 win, .bool bk] 26)).alloc (.cells #[.int .i64 0, .slice (some ⟨S, 0, none⟩) 1 sc, .bool blk] 42)).cell? ⟨TA, 3, none⟩ = some (.slice NA NN NC) := ht.cell 3
  have hwN : IntKind.i64.wrap (N1 : Int) = N1 := IntWalk.i64_in _ (by omega)
  have hN2 : (N1 : Int) < N1 + 1 := by omega
  have HB3 := Lib.hid hb3
  have HQ := Lib.hid hq
  have HCL := Lib.hid hcl
  have HSL := Lib.hid fun W hW => (hsl W hW).1
  have HST : Hid (∀ W, Below (((w.alloc (.cells #[.slice (some ⟨TA, 0, none⟩) 2 2, .int .i64 win, .bool bk] 26)).alloc (.cells #[.int .i64 0, .slice (some ⟨S, 0, none⟩) 1 sc, .bool blk] 42)).alloc (.cells #[.int .i64 0, .bool p, .slice none 0 0, .slice NA NN NC] 49)).heap.size (((w.alloc (.cells #[.slice (some ⟨TA, 0, none⟩) 2 2, .int .i64 win, .bool bk] 26)).alloc (.cells #[.int .i64 0, .slice (some ⟨S, 0, none⟩) 1 sc, .bool blk] 42)).alloc (.cells #[.int .i64 0, .bool p, .slice none 0 0, .slice NA NN NC] 49)) W → (W.cell? ⟨w.heap.size + 1 + 1, 0, none⟩ = some (.int .i64 0) ∧ W.cell? ⟨w.heap.size + 1 + 1, 2, none⟩ = some (.slice none 0 0)) ∧ (W.cell? ⟨w.heap.size + 1, 0, none⟩ = some (.int .i64 0) ∧ W.cell? ⟨w.heap.size + 1, 1, none⟩ = some (.slice (some ⟨S, 0, none⟩) 1 sc) ∧ W.cell? ⟨w.heap.size + 1, 2, none⟩ = some (.bool blk)) ∧ W.cell? ⟨hb, off + N1 * 6, none⟩ = some (.int .i64 el.typ)) := Lib.hid fun W hW => by
    obtain ⟨y0, y1, y2, y3⟩ := four_of ((hW.block _ (block_lt hcl)).trans hcl)
    exact ⟨⟨y0, y2⟩, three_of ((hW.block _ (block_lt hq)).trans hq), (hsl W (bl_then hb3 hW)).1⟩
  have HRES := Lib.hid hres
  clear h hh h0 hl hr hb2 hb3 hz hq hcl ht hsl hres
  go_enter Try.func33, Try.ntmps33
  go_wp2_with fail
  obtain ⟨Q, hQ⟩ : ∃ Q, Q = w.heap.size + 1 := ⟨_, rfl⟩
  rw [← hQ] at HQ HCL HST
  try rw [← hQ]
  clear hQ x0 x1 x2 c0 c1 c2 c3
  generalize (((w.alloc (.cells #[.slice (some ⟨TA, 0, none⟩) 2 2, .int .i64 win, .bool bk] 26)).alloc (.cells #[.int .i64 0, .slice (some ⟨S, 0, none⟩) 1 sc, .bool blk] 42)).alloc (.cells #[.int .i64 0, .bool p, .slice none 0 0, .slice NA NN NC] 49)) = w3 at *
  obtain ⟨⟨a0, a2⟩, ⟨b0, b1, b2⟩, t0⟩ := HST.out _ (Below.refl _ _)
  by_cases hty : el.typ = 0
  · obtain rfl : r = true := by rw [← HRES.out, decide_eq_true hty]
    have d1 : ((0 : Int) == el.typ) = true := by simp [hty]
    clear hty a0 a2 b0 b1 b2 t0
    generalize el.typ = ty at *
    go_region_held3 (fun W => (W.cell? ⟨Q + 1, 0, none⟩ = some (.int .i64 0) ∧ W.cell? ⟨Q + 1, 2, none⟩ = some (.slice none 0 0)) ∧ (W.cell? ⟨Q, 0, none⟩ = some (.int .i64 0) ∧ W.cell? ⟨Q, 1, none⟩ = some (.slice (some ⟨S, 0, none⟩) 1 sc) ∧ W.cell? ⟨Q, 2, none⟩ = some (.bool blk)) ∧ W.cell? ⟨hb, off + N1 * 6, none⟩ = some (.int .i64 ty))
      (first | exact HST.out _ hb4' | exact HST.out _ (bl_drew (Below.refl _ _)))
      (first
        | (go_at_call 53; refine (HSE.out _ (bl_then HB3.out (bl_drew (Below.refl _ _)))).mono ?_; rintro e w4 ⟨X, rfl, hss, hb4⟩; have hb4' := bl_then (bl_drew (Below.refl _ w3)) hb4; clear hss)
        | (go_at_call 52; refine (all_nil _ _).mono ?_; rintro e w5 ⟨rfl, rfl⟩))
    all_goals
      go_wp2_with fail
      go_ret
      exact ⟨rfl, bl_then HB3.out hb4'⟩
  · obtain rfl : r = false := by rw [← HRES.out, decide_eq_false hty]
    have d1 : ((0 : Int) == el.typ) = false := by simpa using fun h => hty h.symm
    clear hty
    generalize el.typ = ty at *
    go_quiet (fail)
    go_wp2_with fail
    go_ret
    exact ⟨rfl, bl_drewN HB3.out _⟩
set_option maxHeartbeats 8000000 in
set_option maxRecDepth 20000 in
theorem takes1 {w : World} {TA : Nat} {p : Bool} {NA : Option Addr} {NN NC : Nat} {RA : Option Addr} {RN RC : Nat} (h : Tab2 w TA p NA NN NC RA RN RC) (win : Int) (bk : Bool) {HA : Option Addr} {N1 hc S I io ic sc : Nat} {es : List Ev} (hh : EvsAt w HA (N1 + 1) es) (hN : N1 ≤ 100000) (e0 el : Ev) (h0 : es.getD 0 Ev.zero = e0) (hl : es.getD N1 Ev.zero = el) (hr : RunAt w S I io ic) (blk : Bool) (r : Bool) (hres : decide (el.typ = 1) = r) :
    Calls Try.prog 33 #[.agg #[.slice (some ⟨TA, 0, none⟩) 2 2, .int .i64 win, .bool bk], .slice HA (N1 + 1) hc, .agg #[.int .i64 0, .slice (some ⟨S, 0, none⟩) 1 sc, .bool blk], .int .i64 1] w fun e w' => e = .returned (.bool r) ∧ Below w.heap.size w w' := by
  have HSE := Lib.hid fun W (hW : Below w.heap.size w W) => sets1 (sc := sc) (hc := hc) (hh.below hW) hN e0 el h0 hl (hr.below hW) blk
  obtain ⟨hb, off, rfl, hsl⟩ := evs_at hh (i := N1) (by omega) el hl
  have hb2 : Below w.heap.size w ((w.alloc (.cells #[.slice (some ⟨TA, 0, none⟩) 2 2, .int .i64 win, .bool bk] 26)).alloc (.cells #[.int .i64 0, .slice (some ⟨S, 0, none⟩) 1 sc, .bool blk] 42)) := bl_alloc (bl_alloc (Below.refl _ _) _) _
  have hb3 : Below w.heap.size w (((w.alloc (.cells #[.slice (some ⟨TA, 0, none⟩) 2 2, .int .i64 win, .bool bk] 26)).alloc (.cells #[.int .i64 0, .slice (some ⟨S, 0, none⟩) 1 sc, .bool blk] 42)).alloc (.cells #[.int .i64 1, .bool false, .slice none 0 0, .slice none 0 0] 49)) := bl_alloc hb2 _
  have hz : ((w.alloc (.cells #[.slice (some ⟨TA, 0, none⟩) 2 2, .int .i64 win, .bool bk] 26)).alloc (.cells #[.int .i64 0, .slice (some ⟨S, 0, none⟩) 1 sc, .bool blk] 42)).heap[w.heap.size]? = some (.cells #[.slice (some ⟨TA, 0, none⟩) 2 2, .int .i64 win, .bool bk] 26 (0, 0)) := alloc_old (alloc_new w _) _
  have hq : (((w.alloc (.cells #[.slice (some ⟨TA, 0, none⟩) 2 2, .int .i64 win, .bool bk] 26)).alloc (.cells #[.int .i64 0, .slice (some ⟨S, 0, none⟩) 1 sc, .bool blk] 42)).alloc (.cells #[.int .i64 1, .bool false, .slice none 0 0, .slice none 0 0] 49)).heap[w.heap.size + 1]? = some (.cells #[.int .i64 0, .slice (some ⟨S, 0, none⟩) 1 sc, .bool blk] 42 (0, 0)) := alloc_old (alloc_at (by simp) _) _
  have hcl : (((w.alloc (.cells #[.slice (some ⟨TA, 0, none⟩) 2 2, .int .i64 win, .bool bk] 26)).alloc (.cells #[.int .i64 0, .slice (some ⟨S, 0, none⟩) 1 sc, .bool blk] 42)).alloc (.cells #[.int .i64 1, .bool false, .slice none 0 0, .slice none 0 0] 49)).heap[w.heap.size + 1 + 1]? = some (.cells #[.int .i64 1, .bool false, .slice none 0 0, .slice none 0 0] 49 (0, 0)) := alloc_at (by simp) _
  have ht := h.below hb2
  obtain ⟨x0, x1, x2⟩ := three_of hz
  have c0 : ((w.alloc (.cells #[.slice (some ⟨TA, 0, none⟩) 2 2, .int .i64 win, .bool bk] 26)).alloc (.cells #[.int .i64 0, .slice (some ⟨S, 0, none⟩) 1 sc, .bool blk] 42)).cell? ⟨TA, 4, none⟩ = some (.int .i64 1) := ht.cell 4
  have c1 : ((w.alloc (.cells #[.slice (some ⟨TA, 0, none⟩) 2 2, .int .i64 win, .bool bk] 26)).alloc (.cells #[.int .i64 0, .slice (some ⟨S, 0, none⟩) 1 sc, .bool blk] 42)).cell? ⟨TA, 5, none⟩ = some (.bool false) := ht.cell 5
  have c2 : ((w.alloc (.cells #[.slice (some ⟨TA, 0, none⟩) 2 2, .int .i64 win, .bool bk] 26)).alloc (.cells #[.int .i64 0, .slice (some ⟨S, 0, none⟩) 1 sc, .bool blk] 42)).cell? ⟨TA, 6, none⟩ = some (.slice none 0 0) := ht.cell 6
  have c3 : ((w.alloc (.cells #[.slice (some ⟨TA, 0, none⟩) 2 2, .int .i64 win, .bool bk] 26)).alloc (.cells #[.int .i64 0, .slice (some ⟨S, 0, none⟩) 1 sc, .bool blk] 42)).cell? ⟨TA, 7, none⟩ = some (.slice none 0 0) := ht.cell 7
  have hwN : IntKind.i64.wrap (N1 : Int) = N1 := IntWalk.i64_in _ (by omega)
  have hN2 : (N1 : Int) < N1 + 1 := by omega
  have HB3 := Lib.hid hb3
  have HQ := Lib.hid hq
  have HCL := Lib.hid hcl
  have HSL := Lib.hid fun W hW => (hsl W hW).1
  have HST : Hid (∀ W, Below (((w.alloc (.cells #[.slice (some ⟨TA, 0, none⟩) 2 2, .int .i64 win, .bool bk] 26)).alloc (.cells #[.int .i64 0, .slice (some ⟨S, 0, none⟩) 1 sc, .bool blk] 42)).alloc (.cells #[.int .i64 1, .bool false, .slice none 0 0, .slice none 0 0] 49)).heap.size (((w.alloc (.cells #[.slice (some ⟨TA, 0, none⟩) 2 2, .int .i64 win, .bool bk] 26)).alloc (.cells #[.int .i64 0, .slice (some ⟨S, 0, none⟩) 1 sc, .bool blk] 42)).alloc (.cells #[.int .i64 1, .bool false, .slice none 0 0, .slice none 0 0] 49)) W → (W.cell? ⟨w.heap.size + 1 + 1, 0, none⟩ = some (.int .i64 1) ∧ W.cell? ⟨w.heap.size + 1 + 1, 2, none⟩ = some (.slice none 0 0)) ∧ (W.cell? ⟨w.heap.size + 1, 0, none⟩ = some (.int .i64 0) ∧ W.cell? ⟨w.heap.size + 1, 1, none⟩ = some (.slice (some ⟨S, 0, none⟩) 1 sc) ∧ W.cell? ⟨w.heap.size + 1, 2, none⟩ = some (.bool blk)) ∧ W.cell? ⟨hb, off + N1 * 6, none⟩ = some (.int .i64 el.typ)) := Lib.hid fun W hW => by
    obtain ⟨y0, y1, y2, y3⟩ := four_of ((hW.block _ (block_lt hcl)).trans hcl)
    exact ⟨⟨y0, y2⟩, three_of ((hW.block _ (block_lt hq)).trans hq), (hsl W (bl_then hb3 hW)).1⟩
  have HRES := Lib.hid hres
  clear h hh h0 hl hr hb2 hb3 hz hq hcl ht hsl hres
  go_enter Try.func33, Try.ntmps33
  go_wp2_with fail
  obtain ⟨Q, hQ⟩ : ∃ Q, Q = w.heap.size + 1 := ⟨_, rfl⟩
  rw [← hQ] at HQ HCL HST
  try rw [← hQ]
  clear hQ x0 x1 x2 c0 c1 c2 c3
  generalize (((w.alloc (.cells #[.slice (some ⟨TA, 0, none⟩) 2 2, .int .i64 win, .bool bk] 26)).alloc (.cells #[.int .i64 0, .slice (some ⟨S, 0, none⟩) 1 sc, .bool blk] 42)).alloc (.cells #[.int .i64 1, .bool false, .slice none 0 0, .slice none 0 0] 49)) = w3 at *
  obtain ⟨⟨a0, a2⟩, ⟨b0, b1, b2⟩, t0⟩ := HST.out _ (Below.refl _ _)
  by_cases hty : el.typ = 1
  · obtain rfl : r = true := by rw [← HRES.out, decide_eq_true hty]
    have d1 : ((1 : Int) == el.typ) = true := by simp [hty]
    clear hty a0 a2 b0 b1 b2 t0
    generalize el.typ = ty at *
    go_region_held3 (fun W => (W.cell? ⟨Q + 1, 0, none⟩ = some (.int .i64 1) ∧ W.cell? ⟨Q + 1, 2, none⟩ = some (.slice none 0 0)) ∧ (W.cell? ⟨Q, 0, none⟩ = some (.int .i64 0) ∧ W.cell? ⟨Q, 1, none⟩ = some (.slice (some ⟨S, 0, none⟩) 1 sc) ∧ W.cell? ⟨Q, 2, none⟩ = some (.bool blk)) ∧ W.cell? ⟨hb, off + N1 * 6, none⟩ = some (.int .i64 ty))
      (first | exact HST.out _ hb4' | exact HST.out _ (bl_drew (Below.refl _ _)))
      (first
        | (go_at_call 53; refine (HSE.out _ (bl_then HB3.out (bl_drew (Below.refl _ _)))).mono ?_; rintro e w4 ⟨X, rfl, hss, hb4⟩; have hb4' := bl_then (bl_drew (Below.refl _ w3)) hb4; clear hss)
        | (go_at_call 52; refine (all_nil _ _).mono ?_; rintro e w5 ⟨rfl, rfl⟩))
    all_goals
      go_wp2_with fail
      go_ret
      exact ⟨rfl, bl_then HB3.out hb4'⟩
  · obtain rfl : r = false := by rw [← HRES.out, decide_eq_false hty]
    have d1 : ((1 : Int) == el.typ) = false := by simpa using fun h => hty h.symm
    clear hty
    generalize el.typ = ty at *
    go_quiet (fail)
    go_wp2_with fail
    go_ret
    exact ⟨rfl, bl_drewN HB3.out _⟩
end Go.Proofs.Ytecdnpdmjbcioaa
