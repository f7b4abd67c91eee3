/- Chapter 19: a log that is being made. No walk. -/
import Derived.Test.YtibbnikfecilhaaLgE
import Derived.Deep.AppendLies
namespace Go.Proofs.Ytibbnikfecilhaa
open Go.RowKit
set_option linter.unusedVariables false
set_option linter.unusedSimpArgs false

def CfgV.asI (c : CfgV) : CfgI := ⟨c.sh, c.inb, c.sl, c.qu, c.ru, c.ou, c.st⟩
def LogS.init (c : CfgV) : LogS := ⟨c, 0, 0, false, fun _ => none, fun _ => 0, fun _ _ => none, fun _ => none⟩
theorem rightB_all {c : CfgI} (h : c.rightB = true) : (1 ≤ c.sh ∧ c.sh ≤ 15) ∧ (1 ≤ c.inb ∧ c.inb ≤ 4096) ∧ (1 ≤ c.sl ∧ c.sl ≤ 4096) ∧ (1 ≤ c.st ∧ c.st ≤ 1099511627776) := by
  unfold CfgI.rightB okB CfgI.five at h
  simp only [Bool.and_eq_true, decide_eq_true_eq] at h
  omega
/-- A ring of commands, made in a memory that has grown. -/
theorem cAt_below {w w' : World} {R B n : Nat} {low : Int} {ps : List (CmdV × Bool)} (h : cAt w R B n low ps) (hb : Below w.heap.size w w') : cAt w' R B n low ps := h.keptT fun k o hk _ => (hb.block k (block_lt hk)).trans hk
theorem size_drew (w : World) : w.drew.heap.size = w.heap.size := rfl
theorem drew_blk {w : World} {k : Nat} {o : Obj} (h : w.heap[k]? = some o) : w.drew.heap[k]? = some o := h
theorem blk_below {w w' : World} {k : Nat} {o : Obj} (hk : w.heap[k]? = some o) (hb : Below w.heap.size w w') : w'.heap[k]? = some o := (hb.block k (block_lt hk)).trans hk
theorem flat_one (x : Value) : ∀ n : Nat, (List.replicate n ()).flatMap (fun _ => [x]) = List.replicate n x
  | 0 => rfl
  | n + 1 => by
    rw [List.replicate_succ, List.flatMap_cons, flat_one x n, List.replicate_succ]
    rfl
set_option maxRecDepth 20000 in
theorem make_ints (n : Nat) (hn : (n : Int) ≤ 1000) (W : World) : (Instr.makeSlice 44 (.int .i64 (n : Int)) (.int .i64 (n : Int))).run Try.prog W = .ok (.slice (some ⟨W.heap.size, 0, none⟩) n n) (W.alloc (.cells (List.replicate n (Value.int .i64 0)).toArray 3)) := by
  have hi : ∃ i, Try.prog.info? 3 = some i ∧ i.zero = some (.int .i64 0) ∧ i.size = 1 ∧ i.bytes = 8 := ⟨_, rfl, by kernel_rfl, by kernel_rfl, by kernel_rfl⟩
  obtain ⟨i, hi0, hi1, hi2, hi3⟩ := hi
  have := run_make (P := Try.prog) W 44 3 i _ Try.underlying44 hi0 hi1 .i64 .i64 n n (by omega) (by omega) (by rw [hi3]; omega) (by omega)
  rw [hi2] at this
  have hm := made_flat (fun _ : Unit => [Value.int .i64 0]) 1 (by decide) (fun _ => rfl) () #[.int .i64 0] rfl rfl n
  rw [flat_one] at hm
  rw [this, ← hm]
  simp [Value.cells]
def newCells (c : CfgV) (st ep : Option Addr) (R C M : Nat) (v : Value) : List Value := [.int .i64 c.sh, .int .i64 c.inb, .int .i64 c.sl, .int .i64 c.qu, .int .i64 c.ru, .int .i64 c.ou, .int .i64 c.st,
  .pointer st, .pointer ep, .int .i64 (0 : Int), .bool false, .pointer (some ⟨R, 0, none⟩), .slice (some ⟨C, 0, none⟩) c.sh c.sh, v, .map (some M)]
/-- A log that has no rings of workers yet. -/
structure Made0 (w wx : World) (P : Nat) (c : CfgV) (L R B C M : Nat) (st ep : Option Addr) : Prop where
  hL : wx.heap[L]? = some (.cells (newCells c st ep R C M (.slice none 0 0)).toArray 94 (0, 0))
  ring : cAt wx R B c.inb 0 (List.replicate c.inb (CmdV.zero, false))
  curs : wx.heap[C]? = some (.cells (Array.replicate c.sh (Value.int .i64 0)) 3 (0, 0))
  map : wx.heap[M]? = some (.map #[] 0)
  bel : Below w.heap.size w wx
  lo : w.heap.size ≤ L ∧ w.heap.size ≤ R ∧ w.heap.size ≤ B ∧ w.heap.size ≤ C ∧ w.heap.size ≤ M
  box : wx.heap[P]? = some (.cells c.cells.toArray 27 (0, 0))
theorem made0_mk {w wx : World} {P : Nat} {c : CfgV} {L R B C M : Nat} {st ep : Option Addr} (hL : wx.heap[L]? = some (.cells (newCells c st ep R C M (.slice none 0 0)).toArray 94 (0, 0)))
    (ring : cAt wx R B c.inb 0 (List.replicate c.inb (CmdV.zero, false))) (curs : wx.heap[C]? = some (.cells (Array.replicate c.sh (Value.int .i64 0)) 3 (0, 0))) (map : wx.heap[M]? = some (.map #[] 0)) (bel : Below w.heap.size w wx)
    (lo : w.heap.size ≤ L ∧ w.heap.size ≤ R ∧ w.heap.size ≤ B ∧ w.heap.size ≤ C ∧ w.heap.size ≤ M) (box : wx.heap[P]? = some (.cells c.cells.toArray 27 (0, 0))) :
    ∃ L' R' B' C' M' st' ep', Value.pointer (some ⟨L, 0, none⟩) = .pointer (some ⟨L', 0, none⟩) ∧ Made0 w wx P c L' R' B' C' M' st' ep' := ⟨L, R, B, C, M, st, ep, rfl, ⟨hL, ring, curs, map, bel, lo, box⟩⟩

theorem info_parts {t : TypeId} {z : Value} {size bytes : Nat} (h : (Try.prog.info? t).map (fun i => (i.zero, i.size, i.bytes)) = some (some z, size, bytes)) : ∃ i, Try.prog.info? t = some i ∧ i.zero = some z ∧ i.size = size ∧ i.bytes = bytes := by
  cases hi : Try.prog.info? t with
  | none => rw [hi] at h; cases h
  | some i =>
    rw [hi] at h
    injection h with h
    injection h with h1 h
    injection h with h2 h3
    exact ⟨i, rfl, h1, h2, h3⟩
theorem infoPtr : (Try.prog.info? 95).map (fun i => (i.zero, i.size, i.bytes)) = some (some (.pointer none), 1, 8) := by kernel_rfl
theorem not_own {w : World} {lo : Nat} {e : TypeId} {size : Nat} {v : Value} {n : Nat} {xs : List Value} (h : w.ownsRow lo e size v n xs) {k : Nat} {o : Obj} (hb : w.heap[k]? = some o) (ho : ∀ cs fr, o ≠ .cells cs e fr) : ¬ v.ownBlock = some k := by
  intro hk
  rcases h.2 with ⟨rfl, _⟩ | ⟨g, cap, cur, rfl, _, hg, _⟩
  · cases hk
  · injection hk with hk
    change g = k at hk
    subst hk
    rw [hg] at hb
    injection hb with hb
    exact ho _ _ hb.symm
def ptrs (rw : Nat → Nat) (n : Nat) : List Value := (List.range n).map fun i => .pointer (some ⟨rw i, 0, none⟩)
theorem ptrs_next (rw : Nat → Nat) (I R : Nat) : ptrs (fun i => if i = I then R else rw i) (I + 1) = ptrs rw I ++ [.pointer (some ⟨R, 0, none⟩)] := by
  unfold ptrs
  rw [List.range_succ, List.map_append]
  congr 1
  · refine List.map_congr_left fun i hi => ?_
    have := List.mem_range.1 hi
    show Value.pointer (some ⟨(if i = I then R else rw i), 0, none⟩) = _
    rw [if_neg (by omega)]
  · simp
/-- A log that has the rings of I workers. -/
structure MadeI (w wr : World) (P : Nat) (c : CfgV) (L R B C M : Nat) (st ep : Option Addr) (I : Nat) (v : Value) (rw bw : Nat → Nat) : Prop where
  hL : wr.heap[L]? = some (.cells (newCells c st ep R C M v).toArray 94 (0, 0))
  ring : cAt wr R B c.inb 0 (List.replicate c.inb (CmdV.zero, false))
  curs : wr.heap[C]? = some (.cells (Array.replicate c.sh (Value.int .i64 0)) 3 (0, 0))
  map : wr.heap[M]? = some (.map #[] 0)
  bel : Below w.heap.size w wr
  lo : w.heap.size ≤ L ∧ w.heap.size ≤ R ∧ w.heap.size ≤ B ∧ w.heap.size ≤ C ∧ w.heap.size ≤ M
  box : wr.heap[P]? = some (.cells c.cells.toArray 27 (0, 0))
  row : wr.ownsRow w.heap.size 95 1 v I (ptrs rw I)
  rgs : ∀ i, i < I → oAt wr (rw i) (bw i) c.inb 0 (List.replicate c.inb (OutV.zero, false))
  apart : ∀ i j, i < I → j < I → i ≠ j → rw i ≠ rw j ∧ bw i ≠ bw j
  los : ∀ i, i < I → w.heap.size ≤ rw i ∧ w.heap.size ≤ bw i
theorem Made0.start {w wx : World} {P : Nat} {c : CfgV} {L R B C M : Nat} {st ep : Option Addr} (h : Made0 w wx P c L R B C M st ep) : MadeI w wx P c L R B C M st ep 0 (.slice none 0 0) (fun _ => 0) (fun _ => 0) :=
  ⟨h.hL, h.ring, h.curs, h.map, h.bel, h.lo, h.box, ⟨by simp [ptrs], .inl ⟨rfl, rfl⟩⟩, fun i hi => absurd hi (Nat.not_lt_zero _), fun i j hi => absurd hi (Nat.not_lt_zero _), fun i hi => absurd hi (Nat.not_lt_zero _)⟩
theorem MadeI.below {w wr w' : World} {P : Nat} {c : CfgV} {L R B C M : Nat} {st ep : Option Addr} {I : Nat} {v : Value} {rw bw : Nat → Nat} (h : MadeI w wr P c L R B C M st ep I v rw bw) (hb : Below wr.heap.size wr w') : MadeI w w' P c L R B C M st ep I v rw bw :=
  ⟨blk_below h.hL hb, cAt_below h.ring hb, blk_below h.curs hb, blk_below h.map hb, bl_then h.bel hb, h.lo, blk_below h.box hb, ownsRow_keptT h.row (fun k cs fr hc => blk_below hc hb), fun i hi => (h.rgs i hi).below hb, h.apart, h.los⟩
/-- One worker's ring more. -/
theorem MadeI.next {w w6 w7 : World} {P : Nat} {c : CfgV} {L R B C M : Nat} {st ep : Option Addr} {I : Nat} {v : Value} {rw bw : Nat → Nat} (h : MadeI w w6 P c L R B C M st ep I v rw bw) {R5 B5 : Nat}
    (h5 : oAt w6 R5 B5 c.inb 0 (List.replicate c.inb (OutV.zero, false))) (hlo : w.heap.size ≤ R5 ∧ w.heap.size ≤ B5) (hnew : ∀ i, i < I → rw i < R5 ∧ bw i < B5) {g cap : Nat}
    (hown : w7.ownsRow w.heap.size 95 1 (.slice (some ⟨g, 0, none⟩) (I + 1) cap) (I + 1) (ptrs rw I ++ [.pointer (some ⟨R5, 0, none⟩)])) (hgr : w6.grownBy w7 v.ownBlock) (hat : v.ownBlock = some g ∨ g = w6.heap.size) :
    ((∃ u, w7.cell? ⟨L, 13, none⟩ = some u ∧ w7.frozen? ⟨L, 13, none⟩ = false) ∧ w7.heap[P]? = some (.cells c.cells.toArray 27 (0, 0))) ∧
    MadeI w (w7.setCell ⟨L, 13, none⟩ (.slice (some ⟨g, 0, none⟩) (I + 1) cap)) P c L R B C M st ep (I + 1) (.slice (some ⟨g, 0, none⟩) (I + 1) cap) (fun i => if i = I then R5 else rw i) (fun i => if i = I then B5 else bw i) := by
  have ho : Only (fun k => v.ownBlock = some k) w6 w7 := only_grown (Only.refl _ _) hgr (fun k hk => .inl hk)
  have keep : ∀ {k : Nat} {o : Obj}, w6.heap[k]? = some o → (∀ cs fr, o ≠ .cells cs 95 fr) → w7.heap[k]? = some o := fun hk hn => ho.block hk (not_own h.row hk hn)
  have hL7 := keep h.hL (by intro cs fr e; injection e with _ e; revert e; decide)
  have neL : ∀ {k : Nat} {o : Obj}, w7.heap[k]? = some o → (∀ cs fr, o ≠ .cells cs 94 fr) → k ≠ L := by
    rintro k o hk hn rfl
    rw [hL7] at hk
    injection hk with hk
    exact hn _ _ hk.symm
  have both : ∀ {k : Nat} {o : Obj}, w6.heap[k]? = some o → (∀ cs fr, o ≠ .cells cs 95 fr) → (∀ cs fr, o ≠ .cells cs 94 fr) → (w7.setCell ⟨L, 13, none⟩ (.slice (some ⟨g, 0, none⟩) (I + 1) cap)).heap[k]? = some o := fun hk h1 h2 =>
    setCell_other (keep hk h1) (neL (keep hk h1) h2) _
  have cells : ∀ {k : Nat} {cs : Array Value} {t : TypeId} {fr : Nat × Nat}, w6.heap[k]? = some (.cells cs t fr) → t ≠ 95 → t ≠ 94 → (w7.setCell ⟨L, 13, none⟩ (.slice (some ⟨g, 0, none⟩) (I + 1) cap)).heap[k]? = some (.cells cs t fr) := fun hk h1 h2 =>
    both hk (by intro cs fr e; injection e with _ e; exact h1 e) (by intro cs fr e; injection e with _ e; exact h2 e)
  have oks : ∀ {R' B' : Nat}, oAt w6 R' B' c.inb 0 (List.replicate c.inb (OutV.zero, false)) → oAt (w7.setCell ⟨L, 13, none⟩ (.slice (some ⟨g, 0, none⟩) (I + 1) cap)) R' B' c.inb 0 (List.replicate c.inb (OutV.zero, false)) := fun h => ⟨cells h.hR (by decide) (by decide), cells h.hB (by decide) (by decide), h.ne, h.len, h.n1, h.n2, h.low0, h.low1⟩
  have hLlt := block_lt h.hL
  refine ⟨⟨⟨_, cell_of_blk hL7 13, free_of_blk hL7 13⟩, keep h.box (by intro cs fr e; injection e with _ e; revert e; decide)⟩, ?_, ⟨cells h.ring.hR (by decide) (by decide), cells h.ring.hB (by decide) (by decide), h.ring.ne, h.ring.len, h.ring.n1, h.ring.n2, h.ring.low0, h.ring.low1⟩, cells h.curs (by decide) (by decide), both h.map (by intro cs fr e; cases e) (by intro cs fr e; cases e), ?_, h.lo, cells h.box (by decide) (by decide), ?_, ?_, ?_, ?_⟩
  · have := setCell_same hL7 (i := 13) (.slice (some ⟨g, 0, none⟩) (I + 1) cap)
    exact this
  · refine bl_set (bl_only h.bel ho ?_) _ _ h.lo.1
    intro k hk
    rcases h.row.2 with ⟨rfl, _⟩ | ⟨g', cap', cur, rfl, hb, hg, _⟩
    · cases hk
    · injection hk with hk
      change g' = k at hk
      omega
  · rw [ptrs_next]
    refine ⟨hown.1, ?_⟩
    rcases hown.2 with h2 | ⟨g', cap', cur, e, hb, hg, h3⟩
    · exact .inl h2
    · refine .inr ⟨g', cap', cur, e, hb, ?_, h3⟩
      exact setCell_other hg (neL hg (by intro cs fr e; injection e with _ e; revert e; decide)) _
  · intro i hi
    by_cases e : i = I
    · simp only [e, if_true]; exact oks h5
    · simp only [if_neg e]; exact oks (h.rgs i (by omega))
  · intro i j hi hj hne
    by_cases e : i = I
    · have hj' : ¬ j = I := by omega
      have := hnew j (by omega)
      simp only [if_pos e, if_neg hj']
      omega
    · by_cases e' : j = I
      · have := hnew i (by omega)
        simp only [if_neg e, if_pos e']
        omega
      · simp only [if_neg e, if_neg e']
        exact h.apart i j (by omega) (by omega) hne
  · intro i hi
    by_cases e : i = I
    · simp only [if_pos e]; exact hlo
    · simp only [if_neg e]; exact h.los i (by omega)
theorem MadeI.done {w wr : World} {P : Nat} {c : CfgV} {L R B C M : Nat} {st ep : Option Addr} {v : Value} {rw bw : Nat → Nat} (h : MadeI w wr P c L R B C M st ep c.sh v rw bw) (hc : (1 ≤ c.sh ∧ c.sh ≤ 15) ∧ (1 ≤ c.inb ∧ c.inb ≤ 4096) ∧ (1 ≤ c.st ∧ c.st ≤ 1099511627776)) : ∃ b, LogAt wr w.heap.size L b (LogS.init c) := by
  obtain ⟨A, oc, e2⟩ := own_form h.row
  subst e2
  obtain ⟨O, e, _⟩ := own_some h.row (by omega)
  subst e
  refine ⟨⟨R, B, C, O, oc, M, st, ep, rw, bw⟩, ⟨h.hL, ?_, ?_, h.row, fun i hi => ?_, h.apart, (fun i p x hi hx => by cases hx), ⟨0, .map [], Nat.le_refl _, ⟨#[], 0, h.map, ⟨by simp, MapKept.stamped_empty 0, by simp⟩, Nat.le_refl _, rfl⟩, fun k => rfl⟩, ⟨hc.1.1, hc.1.2, hc.2.1.1, hc.2.1.2, ?_, hc.2.2.2, Nat.le_refl _, Nat.zero_le _, fun _ _ => rfl, fun i hi => .inr ⟨Int.le_refl _, Int.le_refl _⟩, fun _ _ _ => rfl, fun _ _ _ _ => ⟨rfl, fun _ _ => rfl⟩⟩, ⟨h.lo.1, h.lo.2.1, h.lo.2.2.1, h.lo.2.2.2.1, h.lo.2.2.2.2, h.los⟩⟩⟩
  · have := h.ring
    rw [ringOf_new] at this
    exact this
  · have := h.curs
    rw [show (curCells (LogS.init c)).toArray = Array.replicate c.sh (Value.int .i64 0) by
      unfold curCells LogS.init
      simp [List.map_const']]
    exact this
  · have := h.rgs i hi
    rw [ringOf_new] at this
    exact this
  · show ((0 : Nat) : Int) ≤ c.st
    omega
end Go.Proofs.Ytibbnikfecilhaa
