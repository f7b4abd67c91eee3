/- Chapter 8: a run of one event at the first cell fits. -/
import Derived.Test.YtecdnpdmjbcioaaSt2
namespace Go.Proofs.Ytecdnpdmjbcioaa
open Go.RowKit
set_option linter.unusedVariables false
set_option linter.unusedSimpArgs false

/-- A run that took the first event alone. -/
structure RunAt (w : World) (S I io ic : Nat) : Prop where
  s : S < w.heap.size
  i : I < w.heap.size
  c : w.cell? ⟨S, 0, none⟩ = some (.slice (some ⟨I, io, none⟩) 1 ic)
  k : w.cell? ⟨I, io, none⟩ = some (.int .i64 0)
  st : ∃ cs fr, w.heap[S]? = some (.cells cs 22 fr)
  it : ∃ cs fr, w.heap[I]? = some (.cells cs 3 fr)
theorem RunAt.below {w w' : World} {S I io ic : Nat} (h : RunAt w S I io ic) (hb : Below w.heap.size w w') : RunAt w' S I io ic :=
  ⟨Nat.lt_of_lt_of_le h.s hb.size, Nat.lt_of_lt_of_le h.i hb.size, (hb.cell (p := ⟨S, 0, none⟩) h.s).trans h.c, (hb.cell (p := ⟨I, io, none⟩) h.i).trans h.k, by obtain ⟨cs, fr, e⟩ := h.st; exact ⟨cs, fr, (hb.block _ h.s).trans e⟩, by obtain ⟨cs, fr, e⟩ := h.it; exact ⟨cs, fr, (hb.block _ h.i).trans e⟩⟩
theorem three_of {w : World} {P : Nat} {x y z : Value} {t : TypeId} (h : w.heap[P]? = some (.cells #[x, y, z] t (0, 0))) : w.cell? ⟨P, 0, none⟩ = some x ∧ w.cell? ⟨P, 1, none⟩ = some y ∧ w.cell? ⟨P, 2, none⟩ = some z := ⟨cell_of_blk (cs := [x, y, z]) h 0, cell_of_blk (cs := [x, y, z]) h 1, cell_of_blk (cs := [x, y, z]) h 2⟩
set_option maxHeartbeats 8000000 in
set_option maxRecDepth 20000 in
theorem fits2 {w : World} {TA : Nat} {p : Bool} {NA : Option Addr} {NN NC : Nat} {RA : Option Addr} {RN RC : Nat} (h : Tab2 w TA p NA NN NC RA RN RC) (win : Int) (h1 : 1 ≤ win) (h2 : win ≤ 8) (bk : Bool) {S I io ic sc : Nat} (hr : RunAt w S I io ic) (hsc : 1 ≤ sc) (hic : 1 ≤ ic) (blk : Bool) (hp : blk = true → p = true) (n : Int) (hn : 1 ≤ n) :
    Calls Try.prog 15 #[.agg #[.slice (some ⟨TA, 0, none⟩) 2 2, .int .i64 win, .bool bk], .agg #[.int .i64 0, .slice (some ⟨S, 0, none⟩) 1 sc, .bool blk], .int .i64 n] w fun e w' => e = .returned (.bool true) ∧ Below w.heap.size w w' := by
  have hb0 := bl_alloc (bl_alloc (Below.refl _ w) (.cells #[.slice (some ⟨TA, 0, none⟩) 2 2, .int .i64 win, .bool bk] 26)) (.cells #[.int .i64 0, .slice (some ⟨S, 0, none⟩) 1 sc, .bool blk] 42)
  have hz := alloc_old (alloc_new w (.cells #[.slice (some ⟨TA, 0, none⟩) 2 2, .int .i64 win, .bool bk] 26)) (.cells #[.int .i64 0, .slice (some ⟨S, 0, none⟩) 1 sc, .bool blk] 42)
  have hq : ((w.alloc (.cells #[.slice (some ⟨TA, 0, none⟩) 2 2, .int .i64 win, .bool bk] 26)).alloc (.cells #[.int .i64 0, .slice (some ⟨S, 0, none⟩) 1 sc, .bool blk] 42)).heap[w.heap.size + 1]? = some (.cells #[.int .i64 0, .slice (some ⟨S, 0, none⟩) 1 sc, .bool blk] 42 (0, 0)) := alloc_at (by simp) _
  obtain ⟨x0, x1, x2⟩ := three_of hz
  have HR := Lib.hid (right2 (h.below hb0) win h1 h2 bk)
  have HT := Lib.hid h
  have HRUN := Lib.hid hr
  have HB0 := Lib.hid hb0
  have HZ := Lib.hid hz
  have HQ := Lib.hid hq
  have HP := Lib.hid hp
  clear h hr hb0 hz hq hp
  go_enter Try.func15, Try.ntmps15
  go_wp2_with fail
  obtain ⟨T, hTT⟩ : ∃ T, T = w.heap.size := ⟨_, rfl⟩
  rw [← hTT] at HZ HQ x0 x1 x2
  try rw [← hTT]
  have HTT := Lib.hid hTT
  clear hTT
  generalize (w.alloc (.cells #[.slice (some ⟨TA, 0, none⟩) 2 2, .int .i64 win, .bool bk] 26)).alloc (.cells #[.int .i64 0, .slice (some ⟨S, 0, none⟩) 1 sc, .bool blk] 42) = w1 at *
  refine HR.out.mono ?_
  rintro e w2 ⟨rfl, hb2⟩
  have HB2 := Lib.hid (bl_then HB0.out hb2)
  have HZ2 := Lib.hid ((hb2.block _ (block_lt HZ.out)).trans HZ.out)
  have HQ2 := Lib.hid ((hb2.block _ (block_lt HQ.out)).trans HQ.out)
  have HT2 := Lib.hid (HT.out.below HB2.out)
  have HU2 := Lib.hid (HRUN.out.below HB2.out)
  clear hb2 x0 x1 x2 HB0 HZ HQ HR HT HRUN
  obtain ⟨x0, x1, x2⟩ := three_of HZ2.out
  obtain ⟨y0, y1, y2⟩ := three_of HQ2.out
  have t1 : w2.cell? ⟨TA, 1, none⟩ = some (.bool p) := HT2.out.cell 1
  have s0 := HU2.out.c
  have i0 := HU2.out.k
  have hbr : blk = false ∨ (blk = true ∧ p = true) := by
    cases blk
    · exact .inl rfl
    · exact .inr ⟨rfl, HP.out rfl⟩
  rcases hbr with rfl | ⟨rfl, rfl⟩
  all_goals
    go_wp2_with fail
    go_loopw [7, 54] (fun la i wr => wr = w2 ∧ ((la = .int .i64 (-1) ∧ i = .int .i64 0) ∨ (la = .int .i64 0 ∧ i = .int .i64 1))) (fun _ i _ => 1 - (intOf i).toNat)
    case atStart => exact ⟨rfl, .inl ⟨rfl, rfl⟩⟩
    case round =>
      obtain ⟨rfl, ⟨rfl, rfl⟩ | ⟨rfl, rfl⟩⟩ := hrel
      · go_wp2_with fail
        go_loopw [7, 78] (fun la i wx => wx = wr ∧ ((la = .int .i64 (-1) ∧ i = .int .i64 0) ∨ (la = .int .i64 0 ∧ i = .int .i64 1))) (fun _ i _ => 1 - (intOf i).toNat)
        case atStart => exact ⟨rfl, .inl ⟨rfl, rfl⟩⟩
        case round =>
          obtain ⟨rfl, ⟨rfl, rfl⟩ | ⟨rfl, rfl⟩⟩ := hrel
          · go_wp2_with fail
            go_roundw
            case rel => exact ⟨by first | rfl | trivial, .inr ⟨rfl, by simp⟩⟩
            case measure => simp [intOf]
          · go_wp2_with fail
            go_roundw
            case rel => exact ⟨by first | rfl | trivial, .inr ⟨rfl, by simp⟩⟩
            case measure => simp [intOf]
      · go_wp2_with fail
        go_quiet (fail)
        go_wp2_with fail
        go_ret
        exact ⟨by first | rfl | (simp; omega), bl_drewN HB2.out _⟩
end Go.Proofs.Ytecdnpdmjbcioaa
