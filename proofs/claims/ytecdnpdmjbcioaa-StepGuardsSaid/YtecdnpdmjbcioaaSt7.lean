/- Chapter 8: sets of one's own; a number more. -/
import Derived.Test.YtecdnpdmjbcioaaSt6
namespace Go.Proofs.Ytecdnpdmjbcioaa
open Go.RowKit
set_option linter.unusedVariables false
set_option linter.unusedSimpArgs false

theorem infoI : (Try.prog.info? 3).map (fun i => (i.zero, i.size, i.bytes)) = some (some (.int .i64 0), 1, 8) := by kernel_rfl
theorem infoIs : (Try.prog.info? 22).map (fun i => (i.zero, i.size, i.bytes)) = some (some (.slice none 0 0), 1, 24) := by kernel_rfl
theorem ints_not_nil (W : World) (ad : Addr) (n c : Nat) : (binOp .eql 22 (.slice (some ad) n c) (.slice none 0 0)).run Try.prog W = .ok (.bool false) W := by kernel_rfl
set_option maxHeartbeats 2000000 in
set_option maxRecDepth 20000 in
theorem clone1 {w : World} {I io ic : Nat} (hI : I < w.heap.size) (hk : w.cell? ⟨I, io, none⟩ = some (.int .i64 0)) :
    Calls Try.prog 49 #[.slice (some ⟨I, io, none⟩) 1 ic] w fun e w' => ∃ g c, e = .returned (.slice (some ⟨g, 0, none⟩) 1 c) ∧ w'.ownsRow w.heap.size 3 1 (.slice (some ⟨g, 0, none⟩) 1 c) 1 [.int .i64 0] ∧ Below w.heap.size w w' := by
  obtain ⟨i0, hi, hz0, hz1, hz2⟩ := info_parts infoI
  have hb0 := bl_alloc (Below.refl _ w) (.cells #[] 3)
  have hr : Reads (w.alloc (.cells #[] 3)) 1 (.slice (some ⟨I, io, none⟩) 1 ic) 1 [.int .i64 0] := by
    refine ⟨rfl, by simp [Value.oneCell'], .inl ⟨⟨I, io, none⟩, ic, rfl, fun j u hj => ?_⟩⟩
    have h1 := (hb0.cell (p := ⟨I, io, none⟩) hI).trans hk
    match j, hj with
    | 0, hj =>
      injection hj with hj
      rw [← hj]
      exact h1
  have hnew := alloc_new w (.cells #[] 3)
  have hown : (w.alloc (.cells #[] 3)).ownsRow w.heap.size 3 1 (.slice (some ⟨w.heap.size, 0, none⟩) 0 0) 0 [] := ⟨rfl, .inr ⟨_, 0, #[], rfl, Nat.le_refl _, hnew, Nat.le_refl _, by decide, rfl, rfl⟩⟩
  have hsz : w.heap.size ≤ (w.alloc (.cells #[] 3)).heap.size := hb0.size
  have HB := Lib.hid hb0
  have HO := Lib.hid hown
  have HR := Lib.hid hr
  have hq := ints_not_nil
  clear hb0 hnew hown hr hk
  go_enter Try.func49, Try.ntmps49
  go_wp2_with (at_builtin; refine wpList_append_reads _ rfl (.tmp 5) (.tmp 6) 22 rfl w.heap.size 3 i0 _ 1 8 Try.underlying22 hi hz0 hz1 hz2 rfl (by decide) _ 0 [] rfl HO.out _ 1 _ rfl HR.out (by simp only [maxLen]; omega) (by omega) hsz ?_; intro v8 w8 hown8 hgr8; have ho8 := only_grown (S := fun k => k = w.heap.size) (Only.refl _ _) hgr8 (fun k hk => .inl (by injection hk with hk; exact hk.symm)); have hb8 := bl_only HB.out ho8 (by rintro k rfl; exact Nat.le_refl _); rw [Nat.zero_add, List.nil_append] at hown8)
  obtain ⟨A, c, rfl⟩ := own_form hown8
  obtain ⟨g, rfl, _⟩ := own_some hown8 (by decide)
  go_ret
  exact ⟨g, c, rfl, hown8, hb8⟩
/-- Sets of one's own: one row of one number. -/
structure Cop (w w' : World) (X g c : Nat) : Prop where
  x : w'.heap[X]? = some (.cells #[.slice (some ⟨g, 0, none⟩) 1 c] 22 (0, 0))
  lo : w.heap.size ≤ X
  row : w'.ownsRow w.heap.size 3 1 (.slice (some ⟨g, 0, none⟩) 1 c) 1 [.int .i64 0]
  bel : Below w.heap.size w w'
theorem Cop.below {w w' w2 : World} {X g c : Nat} (h : Cop w w' X g c) (hb : Below w'.heap.size w' w2) : Cop w w2 X g c := ⟨(hb.block _ (block_lt h.x)).trans h.x, h.lo, own_below h.row hb, bl_then h.bel hb⟩
theorem Cop.run {w w' : World} {X g c : Nat} (h : Cop w w' X g c) : RunAt w' X g 0 c ∧ 1 ≤ c := by
  obtain ⟨g', e, _, hc, hlt, hcell⟩ := own_some h.row (by decide)
  injection e with e
  injection e with e
  subst e
  refine ⟨⟨block_lt h.x, hlt, box_of h.x, hcell 0 _ rfl, ⟨_, _, h.x⟩, ?_⟩, hc⟩
  rcases h.row.2 with ⟨h2, _⟩ | ⟨g', c', cur, e, hbb, hg, _⟩
  · cases h2
  · injection e with e
    injection e with e
    injection e with e
    subst e
    exact ⟨_, _, hg⟩
set_option maxRecDepth 20000 in
theorem make_rows (n : Nat) (hn : n ≤ 1000) (W : World) : (Instr.makeSlice 40 (.int .i64 (n : Int)) (.int .i64 (n : Int))).run Try.prog W = .ok (.slice (some ⟨W.heap.size, 0, none⟩) n n) (W.alloc (.cells (List.replicate n (Value.slice none 0 0)).toArray 22 (0, 0))) := by
  obtain ⟨i, hi0, hi1, hi2, hi3⟩ := info_parts infoIs
  have := run_make (P := Try.prog) W 40 22 i _ Try.underlying40 hi0 hi1 .i64 .i64 n n (by omega) (by omega) (by rw [hi3]; omega) (by omega)
  rw [hi2] at this
  rw [this, Int.toNat_natCast]
  have : madeCells (Value.slice none 0 0).cells (n * 1) = (List.replicate n (Value.slice none 0 0)).toArray := by
    apply Array.ext'
    rw [Nat.mul_one]
    refine List.ext_getElem? fun j => ?_
    by_cases hj : j < n
    · simp [madeCells, Value.cells, hj]
      rw [Nat.mod_one]
      rfl
    · rw [List.getElem?_eq_none (by simp [madeCells]; omega), List.getElem?_eq_none (by simp; omega)]
  rw [this]
theorem make_rows1 (W : World) : (Instr.makeSlice 40 (.int .i64 1) (.int .i64 1)).run Try.prog W = .ok (.slice (some ⟨W.heap.size, 0, none⟩) 1 1) (W.alloc (.cells #[.slice none 0 0] 22 (0, 0))) := make_rows 1 (by decide) W
set_option maxHeartbeats 4000000 in
set_option maxRecDepth 20000 in
theorem copied1 {w : World} {S I io ic sc : Nat} (hr : RunAt w S I io ic) :
    Calls Try.prog 31 #[.slice (some ⟨S, 0, none⟩) 1 sc] w fun e w' => ∃ X g c, e = .returned (.slice (some ⟨X, 0, none⟩) 1 1) ∧ Cop w w' X g c := by
  have HR := Lib.hid hr
  have hmk := make_rows1
  clear hr
  go_enter Try.func31, Try.ntmps31
  go_wp2_with fail
  have HX : Hid ((w.alloc (.cells #[.slice none 0 0] 22 (0, 0))).heap[w.heap.size]? = some (.cells #[.slice none 0 0] 22 (0, 0))) := Lib.hid (alloc_new _ _)
  have HB : Hid (Below w.heap.size w (w.alloc (.cells #[.slice none 0 0] 22 (0, 0)))) := Lib.hid (bl_alloc (Below.refl _ _) _)
  clear hmk
  go_loopw [11] (fun i wr => (i = .int .i64 0 ∧ wr = w.alloc (.cells #[.slice none 0 0] 22 (0, 0))) ∨ (i = .int .i64 1 ∧ ∃ g c, Cop w wr w.heap.size g c)) (fun i _ => 1 - (intOf i).toNat)
  case atStart => exact .inl ⟨rfl, rfl⟩
  case round =>
    rcases hrel with ⟨rfl, rfl⟩ | ⟨rfl, g, c, hcop⟩
    · have hr2 := HR.out.below HB.out
      have s0 := hr2.c
      have hx0 := box_of HX.out
      have HC := Lib.hid (clone1 (ic := ic) hr2.i hr2.k)
      have HB2 := Lib.hid HB.out.size
      clear hr2
      go_wp2_with fail
      refine HC.out.mono ?_
      rintro e w2 ⟨g, c, rfl, hown, hb2⟩
      have hx2 := (hb2.block _ (block_lt HX.out)).trans HX.out
      have x2 := box_of hx2
      have f2 := free_of_blk (cs := [Value.slice none 0 0]) hx2 0
      have hfin : Cop w (w2.setCell ⟨w.heap.size, 0, none⟩ (.slice (some ⟨g, 0, none⟩) 1 c)) w.heap.size g c := by
        refine ⟨setCell_same (cs := [Value.slice none 0 0]) hx2 _, Nat.le_refl _, ?_, bl_set (bl_then HB.out hb2) _ _ (Nat.le_refl _)⟩
        refine ownsRow_kept (ownsRow_base hown HB2.out) ((Only.refl (fun k => k = w.heap.size) w2).setCell _ _ (.inl rfl)) fun k hk he => ?_
        have := own_block hown he
        simp only [World.size_alloc] at this
        omega
      have HF := Lib.hid hfin
      clear hown hb2 hx2 hfin
      go_wp2_with fail
      go_roundw
      case rel => exact .inr ⟨by simp, g, c, HF.out⟩
      case measure => simp [intOf]
    · have HCP := Lib.hid hcop
      clear hcop
      go_wp2_with fail
      go_ret
      exact ⟨_, g, c, rfl, HCP.out⟩
theorem runInfo : (Try.prog.info? 42).map (·.size) = some 3 := by kernel_rfl
theorem results1 {P : Program} {fn : Func} {p : Tmp} {ty : TypeId} (h : fn.results = #[.cell p ty]) (tmps : Array Value) (w : World) (g : Nat) (t : TypeId) (cs : Array Value) (fr : Nat × Nat) (d : TypeDesc)
    (hp : tmps.getD p undef = .pointer (some ⟨g, 0, none⟩)) (hg : w.heap[g]? = some (.cells cs t fr))
    (hu : P.underlying ty = some d) (hd : (match d with | .struct _ | .array _ _ => true | _ => false) = true) (hi : (P.info? ty).map (·.size) = some cs.size) :
    (results fn tmps).run P w = .ok (.agg cs) w := by
  have hp' : tmps[p]?.getD undef = .pointer (some ⟨g, 0, none⟩) := by simpa using hp
  simp [results, h, hp', asAddr, run_loadVar_row w g t ty cs fr d hg hu hd hi]
set_option maxHeartbeats 4000000 in
theorem own_any {w : World} {P S I io ic sc : Nat} {blk : Bool} (hP : w.heap[P]? = some (.cells #[.int .i64 0, .slice (some ⟨S, 0, none⟩) 1 sc, .bool blk] 42 (0, 0))) (hr : RunAt w S I io ic) (at_ : Int) :
    Calls Try.prog 30 #[.int .i64 at_, .pointer (some ⟨P, 0, none⟩)] w fun e w' => ∃ X g c, e = .returned (.agg #[.int .i64 at_, .slice (some ⟨X, 0, none⟩) 1 1, .bool false]) ∧ Cop w w' X g c := by
  have hb : Below w.heap.size w (w.alloc (.cells #[.int .i64 0, .slice none 0 0, .bool false] 42)) := bl_alloc (Below.refl _ _) _
  have hz := alloc_new w (.cells #[.int .i64 0, .slice none 0 0, .bool false] 42)
  obtain ⟨p0, p1, p2⟩ := three_of ((hb.block _ (block_lt hP)).trans hP)
  have HC := Lib.hid (copied1 (sc := sc) (hr.below hb))
  have HB := Lib.hid hb
  have HZ := Lib.hid hz
  clear hP hr hb hz
  go_enter Try.func30, Try.ntmps30
  go_wp2_with fail
  refine HC.out.mono ?_
  rintro e w2 ⟨X, g, c, rfl, hcop⟩
  have hz2 := (hcop.bel.block _ (block_lt HZ.out)).trans HZ.out
  obtain ⟨z0, z1, z2⟩ := three_of hz2
  have f0 := free_of_blk (cs := [Value.int .i64 0, .slice none 0 0, .bool false]) hz2 0
  have f1 := free_of_blk (cs := [Value.int .i64 0, .slice none 0 0, .bool false]) hz2 1
  have f2 := free_of_blk (cs := [Value.int .i64 0, .slice none 0 0, .bool false]) hz2 2
  have hs := setCell_same (cs := _) (i := 2) (setCell_same (cs := _) (i := 1) (setCell_same (cs := [Value.int .i64 0, .slice none 0 0, .bool false]) (i := 0) hz2 (.int .i64 at_)) (.slice (some ⟨X, 0, none⟩) 1 1)) (.bool false)
  have hon : Only (fun k => k = w.heap.size) w2 (((w2.setCell ⟨w.heap.size, 0, none⟩ (.int .i64 at_)).setCell ⟨w.heap.size, 1, none⟩ (.slice (some ⟨X, 0, none⟩) 1 1)).setCell ⟨w.heap.size, 2, none⟩ (.bool false)) := (((Only.refl (fun k => k = w.heap.size) w2).setCell ⟨w.heap.size, 0, none⟩ (.int .i64 at_) (.inl rfl)).setCell ⟨w.heap.size, 1, none⟩ (.slice (some ⟨X, 0, none⟩) 1 1) (.inl rfl)).setCell ⟨w.heap.size, 2, none⟩ (.bool false) (.inl rfl)
  have hlo := hcop.lo
  simp only [World.size_alloc] at hlo
  have hfin : Cop w (((w2.setCell ⟨w.heap.size, 0, none⟩ (.int .i64 at_)).setCell ⟨w.heap.size, 1, none⟩ (.slice (some ⟨X, 0, none⟩) 1 1)).setCell ⟨w.heap.size, 2, none⟩ (.bool false)) X g c := by
    refine ⟨hon.block hcop.x (by omega), by omega, ownsRow_kept (ownsRow_base hcop.row HB.out.size) hon fun k hk he => ?_, bl_only (bl_then HB.out hcop.bel) hon (fun i hi => by omega)⟩
    have := own_block hcop.row he
    simp only [World.size_alloc] at this
    omega
  have HS := Lib.hid hs
  have HF := Lib.hid hfin
  clear hcop hz2 hs hon hfin hlo
  go_wp2_with fail
  refine bodyPost_ret (v := .agg #[.int .i64 at_, .slice (some ⟨X, 0, none⟩) 1 1, .bool false]) ?_ rfl ⟨X, g, c, rfl, HF.out⟩
  exact results1 (p := 3) rfl _ _ w.heap.size 42 _ (0, 0) _ rfl HS.out Try.underlying42 rfl runInfo
end Go.Proofs.Ytecdnpdmjbcioaa
