/- Chapter 8: a table of two cells is right. -/
import Derived.Test.YtecdnpdmjbcioaaSt1
namespace Go.Proofs.Ytecdnpdmjbcioaa
open Go.RowKit
set_option linter.unusedVariables false
set_option linter.unusedSimpArgs false

theorem box_of {w : World} {b : Nat} {v : Value} {t : TypeId} (h : w.heap[b]? = some (.cells #[v] t (0, 0))) : w.cell? ⟨b, 0, none⟩ = some v := cell_of_blk (cs := [v]) h 0
theorem alloc_at {w : World} {k : Nat} (h : w.heap.size = k) (o : Obj) : (w.alloc o).heap[k]? = some o := by rw [← h]; exact alloc_new w o
/-- A table of two cells: the first is of type 0, the second of type 1; of neither any rule is asked. -/
structure Tab2 (w : World) (TA : Nat) (p : Bool) (NA : Option Addr) (NN NC : Nat) (RA : Option Addr) (RN RC : Nat) : Prop where
  cells : w.heap[TA]? = some (.cells #[.int .i64 0, .bool p, .slice none 0 0, .slice NA NN NC, .int .i64 1, .bool false, .slice none 0 0, .slice none 0 0] 49 (0, 0))
  gs : Guards w NA NN (.slice RA RN RC)
  mays : NN = 1 → ∀ W, Below w.heap.size w W → Calls Try.prog 56 #[.slice RA RN RC, .int .i64 0, .int .i64 2] W fun e w' => e = .returned (.bool true) ∧ Below W.heap.size W w'
theorem Tab2.below {w w' : World} {TA : Nat} {p : Bool} {NA : Option Addr} {NN NC : Nat} {RA : Option Addr} {RN RC : Nat} (h : Tab2 w TA p NA NN NC RA RN RC) (hb : Below w.heap.size w w') : Tab2 w' TA p NA NN NC RA RN RC :=
  ⟨(hb.block _ (block_lt h.cells)).trans h.cells, h.gs.below hb, fun hn W hW => h.mays hn W (bl_then hb hW)⟩
theorem Tab2.cell {w : World} {TA : Nat} {p : Bool} {NA : Option Addr} {NN NC : Nat} {RA : Option Addr} {RN RC : Nat} (h : Tab2 w TA p NA NN NC RA RN RC) (i : Nat) : w.cell? ⟨TA, i, none⟩ = [Value.int .i64 0, .bool p, .slice none 0 0, .slice NA NN NC, .int .i64 1, .bool false, .slice none 0 0, .slice none 0 0][i]? := cell_of_blk h.cells i
set_option maxHeartbeats 2000000 in
theorem bad_any {w : World} {P Q : Nat} {RA : Option Addr} {RN RC : Nat} (hP : w.heap[P]? = some (.cells #[.int .i64 0] 3 (0, 0))) (hQ : w.heap[Q]? = some (.cells #[.int .i64 2] 3 (0, 0)))
    (hm : ∀ W, Below w.heap.size w W → Calls Try.prog 56 #[.slice RA RN RC, .int .i64 0, .int .i64 2] W fun e w' => e = .returned (.bool true) ∧ Below W.heap.size W w') :
    Calls Try.prog 54 #[.agg #[.int .i64 2, .slice RA RN RC], .pointer (some ⟨P, 0, none⟩), .pointer (some ⟨Q, 0, none⟩)] w fun e w' => e = .returned (.bool false) ∧ Below w.heap.size w w' := by
  have hb := bl_alloc (Below.refl _ w) (.cells #[.int .i64 2, .slice RA RN RC] 61)
  have hz := alloc_new w (.cells #[.int .i64 2, .slice RA RN RC] 61)
  have x0 : (w.alloc (.cells #[.int .i64 2, .slice RA RN RC] 61)).cell? ⟨w.heap.size, 0, none⟩ = some (.int .i64 2) := cell_of_blk (cs := [.int .i64 2, .slice RA RN RC]) hz 0
  have x1 : (w.alloc (.cells #[.int .i64 2, .slice RA RN RC] 61)).cell? ⟨w.heap.size, 1, none⟩ = some (.slice RA RN RC) := cell_of_blk (cs := [.int .i64 2, .slice RA RN RC]) hz 1
  have p0 : (w.alloc (.cells #[.int .i64 2, .slice RA RN RC] 61)).cell? ⟨P, 0, none⟩ = some (.int .i64 0) := box_of (alloc_old hP _)
  have q0 : (w.alloc (.cells #[.int .i64 2, .slice RA RN RC] 61)).cell? ⟨Q, 0, none⟩ = some (.int .i64 2) := box_of (alloc_old hQ _)
  have HM := Lib.hid (hm _ hb)
  have HB := Lib.hid hb
  clear hP hQ hm hb hz
  go_enter Try.func54, Try.ntmps54
  go_wp2_with fail
  refine (typed_any 2 (by decide) (by decide) _).mono ?_
  rintro e w' ⟨rfl, rfl⟩
  go_wp2_with fail
  refine HM.out.mono ?_
  rintro e w' ⟨rfl, hb2⟩
  have HB2 := Lib.hid (bl_then HB.out hb2)
  clear hb2 x0 x1 p0 q0
  go_wp2_with fail
  go_ret
  exact ⟨rfl, HB2.out⟩
set_option maxHeartbeats 8000000 in
set_option maxRecDepth 20000 in
theorem right2 {w : World} {TA : Nat} {p : Bool} {NA : Option Addr} {NN NC : Nat} {RA : Option Addr} {RN RC : Nat} (h : Tab2 w TA p NA NN NC RA RN RC) (win : Int) (h1 : 1 ≤ win) (h2 : win ≤ 8) (bk : Bool) :
    Calls Try.prog 35 #[.agg #[.slice (some ⟨TA, 0, none⟩) 2 2, .int .i64 win, .bool bk]] w fun e w' => e = .returned (.bool true) ∧ Below w.heap.size w w' := by
  have HH := Lib.hid h
  have hb0 := bl_alloc (bl_alloc (Below.refl _ w) (.cells #[.slice (some ⟨TA, 0, none⟩) 2 2, .int .i64 win, .bool bk] 26)) (.cells #[.int .i64 2] 3)
  have hz := alloc_old (alloc_new w (.cells #[.slice (some ⟨TA, 0, none⟩) 2 2, .int .i64 win, .bool bk] 26)) (.cells #[.int .i64 2] 3)
  have hn : ((w.alloc (.cells #[.slice (some ⟨TA, 0, none⟩) 2 2, .int .i64 win, .bool bk] 26)).alloc (.cells #[.int .i64 2] 3)).heap[w.heap.size + 1]? = some (.cells #[.int .i64 2] 3 (0, 0)) := alloc_at (by simp) _
  have z0 : (w.alloc (.cells #[.slice (some ⟨TA, 0, none⟩) 2 2, .int .i64 win, .bool bk] 26)).cell? ⟨w.heap.size, 0, none⟩ = some (.slice (some ⟨TA, 0, none⟩) 2 2) := cell_of_blk (cs := [.slice (some ⟨TA, 0, none⟩) 2 2, .int .i64 win, .bool bk]) (alloc_new w _) 0
  have x0 : ((w.alloc (.cells #[.slice (some ⟨TA, 0, none⟩) 2 2, .int .i64 win, .bool bk] 26)).alloc (.cells #[.int .i64 2] 3)).cell? ⟨w.heap.size, 0, none⟩ = some (.slice (some ⟨TA, 0, none⟩) 2 2) := cell_of_blk (cs := [.slice (some ⟨TA, 0, none⟩) 2 2, .int .i64 win, .bool bk]) hz 0
  have x1 : ((w.alloc (.cells #[.slice (some ⟨TA, 0, none⟩) 2 2, .int .i64 win, .bool bk] 26)).alloc (.cells #[.int .i64 2] 3)).cell? ⟨w.heap.size, 1, none⟩ = some (.int .i64 win) := cell_of_blk (cs := [.slice (some ⟨TA, 0, none⟩) 2 2, .int .i64 win, .bool bk]) hz 1
  have n0 := box_of hn
  have t7 : ((w.alloc (.cells #[.slice (some ⟨TA, 0, none⟩) 2 2, .int .i64 win, .bool bk] 26)).alloc (.cells #[.int .i64 2] 3)).cell? ⟨TA, 7, none⟩ = some (.slice none 0 0) := (h.below hb0).cell 7
  have HN := Lib.hid hn
  have HB0 := Lib.hid hb0
  clear h hb0 hz hn
  go_enter Try.func35, Try.ntmps35
  go_wp2_with fail
  generalize (w.alloc (.cells #[.slice (some ⟨TA, 0, none⟩) 2 2, .int .i64 win, .bool bk] 26)).alloc (.cells #[.int .i64 2] 3) = w1 at *
  have hb1 := HB0.out
  obtain ⟨Q, hQ⟩ : ∃ Q, Q = w.heap.size + 1 := ⟨_, rfl⟩
  rw [← hQ] at HN n0
  try rw [← hQ]
  clear hQ
  go_loopw [40] (fun i wr => ∃ K : Nat, K ≤ 2 ∧ i = .int .i64 K ∧ Below w.heap.size w wr ∧ wr.heap[Q]? = some (.cells #[.int .i64 2] 3 (0, 0))) (fun i _ => 2 - (intOf i).toNat)
  case atStart => exact ⟨0, Nat.zero_le _, rfl, hb1, HN.out⟩
  case round =>
    clear hb1 x0 x1 n0 t7
    obtain ⟨K, hK, rfl, hb, hn⟩ := hrel
    have HT := Lib.hid (HH.out.below hb)
    have HB := Lib.hid hb
    have HNR := Lib.hid hn
    clear hb hn
    have hc : K = 0 ∨ K = 1 ∨ K = 2 := by omega
    rcases hc with rfl | rfl | rfl
    · have c0 : wr.cell? ⟨TA, 0, none⟩ = some (.int .i64 0) := HT.out.cell 0
      have c1 : wr.cell? ⟨TA, 1, none⟩ = some (.bool p) := HT.out.cell 1
      have c2 : wr.cell? ⟨TA, 2, none⟩ = some (.slice none 0 0) := HT.out.cell 2
      have c3 : wr.cell? ⟨TA, 3, none⟩ = some (.slice NA NN NC) := HT.out.cell 3
      have hbw : Below wr.heap.size wr ((wr.alloc (.cells #[.int .i64 0] 3)).alloc (.cells #[.int .i64 0, .bool p, .slice none 0 0, .slice NA NN NC] 49)) := bl_alloc (bl_alloc (Below.refl _ _) _) _
      have hi : ((wr.alloc (.cells #[.int .i64 0] 3)).alloc (.cells #[.int .i64 0, .bool p, .slice none 0 0, .slice NA NN NC] 49)).heap[wr.heap.size]? = some (.cells #[.int .i64 0] 3 (0, 0)) := alloc_old (alloc_new _ _) _
      have hcl : ((wr.alloc (.cells #[.int .i64 0] 3)).alloc (.cells #[.int .i64 0, .bool p, .slice none 0 0, .slice NA NN NC] 49)).heap[wr.heap.size + 1]? = some (.cells #[.int .i64 0, .bool p, .slice none 0 0, .slice NA NN NC] 49 (0, 0)) := alloc_at (by simp) _
      have HBW := Lib.hid hbw
      have HI := Lib.hid hi
      have HCL := Lib.hid hcl
      have i0 := box_of hi
      have d0 : ((wr.alloc (.cells #[.int .i64 0] 3)).alloc (.cells #[.int .i64 0, .bool p, .slice none 0 0, .slice NA NN NC] 49)).cell? ⟨wr.heap.size + 1, 0, none⟩ = some (.int .i64 0) := cell_of_blk (cs := [.int .i64 0, .bool p, .slice none 0 0, .slice NA NN NC]) hcl 0
      have d2 : ((wr.alloc (.cells #[.int .i64 0] 3)).alloc (.cells #[.int .i64 0, .bool p, .slice none 0 0, .slice NA NN NC] 49)).cell? ⟨wr.heap.size + 1, 2, none⟩ = some (.slice none 0 0) := cell_of_blk (cs := [.int .i64 0, .bool p, .slice none 0 0, .slice NA NN NC]) hcl 2
      clear hbw hi hcl
      go_wp2_with fail
      refine (typed_any 0 (by decide) (by decide) _).mono ?_
      rintro e w' ⟨rfl, rfl⟩
      go_wp2_with fail
      refine (may_nil 0 0 _).mono ?_
      rintro e w3 ⟨rfl, hb3⟩
      have hb4 := bl_then HBW.out hb3
      have hcl3 := (hb3.block _ (block_lt HCL.out)).trans HCL.out
      have d3 : w3.cell? ⟨wr.heap.size + 1, 3, none⟩ = some (.slice NA NN NC) := cell_of_blk (cs := [.int .i64 0, .bool p, .slice none 0 0, .slice NA NN NC]) hcl3 3
      have HC := Lib.hid (contains_r (NC := NC) (HT.out.below hb4).gs (.pointer (some ⟨wr.heap.size, 0, none⟩)) (.pointer (some ⟨Q, 0, none⟩)) false (fun hn W hW => bad_any (((bl_then hb3 hW).block _ (block_lt HI.out)).trans HI.out) (((bl_then hb4 hW).block _ (block_lt HNR.out)).trans HNR.out) (fun W2 hW2 => HT.out.mays hn W2 (bl_then (bl_then hb4 hW) hW2))))
      have HB4 := Lib.hid hb4
      clear hb3 hb4 hcl3 c0 c1 c2 c3 i0 d0 d2
      go_wp2_with fail
      refine HC.out.mono ?_
      rintro e w5 ⟨rfl, hb5⟩
      have HB5 := Lib.hid (bl_then HB4.out hb5)
      simp only [Bool.and_false]
      clear hb5 d3
      go_wp2_with fail
      go_roundw
      case rel => exact ⟨1, by omega, by simp, bl_then HB.out HB5.out, (HB5.out.block _ (block_lt HNR.out)).trans HNR.out⟩
      case measure => simp [intOf]
    · have c0 : wr.cell? ⟨TA, 4, none⟩ = some (.int .i64 1) := HT.out.cell 4
      have c1 : wr.cell? ⟨TA, 5, none⟩ = some (.bool false) := HT.out.cell 5
      have c2 : wr.cell? ⟨TA, 6, none⟩ = some (.slice none 0 0) := HT.out.cell 6
      have c3 : wr.cell? ⟨TA, 7, none⟩ = some (.slice none 0 0) := HT.out.cell 7
      have hbw : Below wr.heap.size wr ((wr.alloc (.cells #[.int .i64 1] 3)).alloc (.cells #[.int .i64 1, .bool false, .slice none 0 0, .slice none 0 0] 49)) := bl_alloc (bl_alloc (Below.refl _ _) _) _
      have hi : ((wr.alloc (.cells #[.int .i64 1] 3)).alloc (.cells #[.int .i64 1, .bool false, .slice none 0 0, .slice none 0 0] 49)).heap[wr.heap.size]? = some (.cells #[.int .i64 1] 3 (0, 0)) := alloc_old (alloc_new _ _) _
      have hcl : ((wr.alloc (.cells #[.int .i64 1] 3)).alloc (.cells #[.int .i64 1, .bool false, .slice none 0 0, .slice none 0 0] 49)).heap[wr.heap.size + 1]? = some (.cells #[.int .i64 1, .bool false, .slice none 0 0, .slice none 0 0] 49 (0, 0)) := alloc_at (by simp) _
      have HBW := Lib.hid hbw
      have HCL := Lib.hid hcl
      have i0 := box_of hi
      have d0 : ((wr.alloc (.cells #[.int .i64 1] 3)).alloc (.cells #[.int .i64 1, .bool false, .slice none 0 0, .slice none 0 0] 49)).cell? ⟨wr.heap.size + 1, 0, none⟩ = some (.int .i64 1) := cell_of_blk (cs := [.int .i64 1, .bool false, .slice none 0 0, .slice none 0 0]) hcl 0
      have d2 : ((wr.alloc (.cells #[.int .i64 1] 3)).alloc (.cells #[.int .i64 1, .bool false, .slice none 0 0, .slice none 0 0] 49)).cell? ⟨wr.heap.size + 1, 2, none⟩ = some (.slice none 0 0) := cell_of_blk (cs := [.int .i64 1, .bool false, .slice none 0 0, .slice none 0 0]) hcl 2
      clear hbw hi hcl
      go_wp2_with fail
      refine (typed_any 1 (by decide) (by decide) _).mono ?_
      rintro e w' ⟨rfl, rfl⟩
      go_wp2_with fail
      refine (may_nil 1 1 _).mono ?_
      rintro e w3 ⟨rfl, hb3⟩
      have hb4 := bl_then HBW.out hb3
      have hcl3 := (hb3.block _ (block_lt HCL.out)).trans HCL.out
      have d3 : w3.cell? ⟨wr.heap.size + 1, 3, none⟩ = some (.slice none 0 0) := cell_of_blk (cs := [.int .i64 1, .bool false, .slice none 0 0, .slice none 0 0]) hcl3 3
      have HC := Lib.hid (contains_r (w := w3) (NA := none) (NN := 0) (NC := 0) (RA := none) (RN := 0) (RC := 0) (.inl rfl) (.pointer (some ⟨wr.heap.size, 0, none⟩)) (.pointer (some ⟨Q, 0, none⟩)) false (fun hn => by omega))
      have HB4 := Lib.hid hb4
      clear hb3 hb4 hcl3 c0 c1 c2 c3 i0 d0 d2
      go_wp2_with fail
      refine HC.out.mono ?_
      rintro e w5 ⟨rfl, hb5⟩
      have HB5 := Lib.hid (bl_then HB4.out hb5)
      simp only [Bool.and_false]
      clear hb5 d3
      go_wp2_with fail
      go_roundw
      case rel => exact ⟨2, by omega, by simp, bl_then HB.out HB5.out, (HB5.out.block _ (block_lt HNR.out)).trans HNR.out⟩
      case measure => simp [intOf]
    · go_wp2_with fail
      go_ret
      exact ⟨rfl, HB.out⟩
end Go.Proofs.Ytecdnpdmjbcioaa
