/- Chapter 19: Reply. (Printed by lggen.py.) -/
import Derived.Test.YtibbnikfecilhaaLg6
namespace Go.Proofs.Ytibbnikfecilhaa
open Go.RowKit
open Go.Maps (Keyed)
set_option linter.unusedVariables false
set_option linter.unusedSimpArgs false

theorem ringOf_congr {X : Type} (z : X) {low n : Nat} {f g : Nat → Option X} (h : ∀ p, low ≤ p → p < low + n → f p = g p) : ringOf z low n f = ringOf z low n g := by
  refine List.map_congr_left fun i hi => ?_
  obtain ⟨h1, h2, _⟩ := numAt_spec (low := low) (List.mem_range.1 hi)
  rw [h _ h1 h2]
theorem odrops_of {low n : Nat} {f : Nat → Option OutV} (hn : 0 < n) (hl : low < 4611686018427387904) : odrops (ringOf OutV.zero low n f) low = (f low).isSome := by
  unfold odrops
  rw [oget_of, if_pos ⟨Int.le_refl _, by omega⟩, Int.toNat_natCast, decide_eq_true (by omega), Bool.and_true]
  cases f low <;> rfl
theorem odrop_told {W : World} {R B n low : Nat} {f : Nat → Option OutV} (h : oAt W R B n low (ringOf OutV.zero low n f)) (hf : f (low + n) = none) (hl : low < 4611686018427387904) {x : OutV} (hx : f low = some x) :
    Calls Try.prog 45 #[.pointer (some ⟨R, 0, none⟩)] W fun e W' => e = .returned (.tuple #[.agg x.cells.toArray, .bool true]) ∧ oAt W' R B n ((low + 1 : Nat) : Int) (ringOf OutV.zero (low + 1) n f) ∧ Only (fun b => b = R ∨ b = B) W W' := by
  have n1 := h.n1
  have hd := odrop_yes h (by rw [odrops_of (by omega) hl, hx]; rfl)
  rw [odrop_of (by omega) hf, oget_of, if_pos ⟨Int.le_refl _, by omega⟩, Int.toNat_natCast, hx] at hd
  refine hd.mono ?_
  rintro e W' ⟨h1, h2, h3⟩
  exact ⟨h1, by simpa using h2, h3⟩
theorem odrop_none {W : World} {R B n low : Nat} {f : Nat → Option OutV} (h : oAt W R B n low (ringOf OutV.zero low n f)) (hx : f low = none) :
    Calls Try.prog 45 #[.pointer (some ⟨R, 0, none⟩)] W fun e W' => e = .returned (.tuple #[.agg #[.slice none 0 0, .slice none 0 0, .slice none 0 0, .slice none 0 0], .bool false]) ∧ Below W.heap.size W W' := by
  have n1 := h.n1
  exact odrop_no h (by rw [oget_of, if_pos ⟨Int.le_refl _, by omega⟩, Int.toNat_natCast, hx]; rfl)
theorem oput_none {W : World} {R B n low : Nat} {f : Nat → Option OutV} (h : oAt W R B n low (ringOf OutV.zero low n f)) (hx : f low = none) (hl : low < 4611686018427387904) :
    Calls Try.prog 40 #[.pointer (some ⟨R, 0, none⟩), .int .i64 low, .agg #[.slice none 0 0, .slice none 0 0, .slice none 0 0, .slice none 0 0]] W fun e W' => e = .returned (.bool true) ∧ oAt W' R B n low (ringOf OutV.zero low n (upd f low (some OutV.zero))) ∧ Only (fun b => b = B) W W' := by
  have n1 := h.n1
  have hp := oput_any h OutV.zero low (by omega)
  rw [ook_of, decide_eq_true ⟨Int.le_refl _, by omega, by rw [Int.toNat_natCast]; exact hx⟩, if_pos rfl, oput_of (Nat.le_refl _) (by omega)] at hp
  exact hp
/-- While all rings are led on: commands' and the first I workers' have been. -/
structure RepAt (W : World) (lo L : Nat) (b : LogB) (s : LogS) (ans : Int → Option Int) (I : Nat) : Prop where
  hL : W.heap[L]? = some (.cells (lgCells b s).toArray 94 (0, 0))
  ring : cAt W b.R b.B s.cfg.inb ((s.low + 1 : Nat) : Int) (ringOf CmdV.zero (s.low + 1) s.cfg.inb s.cmd)
  curs : W.heap[b.C]? = some (.cells (curCells s).toArray 3 (0, 0))
  outs : W.ownsRow lo 95 1 (.slice (some ⟨b.O, 0, none⟩) s.cfg.sh b.oc) s.cfg.sh (ptrCells b s.cfg.sh)
  done : ∀ i, i < s.cfg.sh → i < I → oAt W (b.rw i) (b.bw i) s.cfg.inb ((s.low + 1 : Nat) : Int) (ringOf OutV.zero (s.low + 1) s.cfg.inb (s.outv i))
  todo : ∀ i, i < s.cfg.sh → I ≤ i → oAt W (b.rw i) (b.bw i) s.cfg.inb s.low (ringOf OutV.zero s.low s.cfg.inb (s.outv i))
  apart : ∀ i j, i < s.cfg.sh → j < s.cfg.sh → i ≠ j → b.rw i ≠ b.rw j ∧ b.bw i ≠ b.bw j
  lost : ∀ i p x, i < s.cfg.sh → s.out i p = some x → LostIn W b.C x
  ans : AnsAt W b.M (s.low + 1) ans
theorem RepAt.keptT {w w' : World} {lo L : Nat} {b : LogB} {s : LogS} {ans : Int → Option Int} {I : Nat} (h : RepAt w lo L b s ans I) (hk : ∀ (k : Nat) (o : Obj), w.heap[k]? = some o → logT o → w'.heap[k]? = some o) : RepAt w' lo L b s ans I :=
  ⟨hk _ _ h.hL (by simp [logT]), h.ring.keptT hk, hk _ _ h.curs (by simp [logT]), ownsRow_keptT h.outs (fun k cs fr hc => hk _ _ hc (by simp [logT])), fun i hi h2 => (h.done i hi h2).keptT hk, fun i hi h2 => (h.todo i hi h2).keptT hk, h.apart, fun i p x hi hx => (h.lost i p x hi hx).keptT hk, h.ans.keptT hk⟩
theorem RepAt.below {w w' : World} {lo L : Nat} {b : LogB} {s : LogS} {ans : Int → Option Int} {I : Nat} (h : RepAt w lo L b s ans I) (hb : Below w.heap.size w w') : RepAt w' lo L b s ans I := h.keptT fun k o hk _ => (hb.block k (block_lt hk)).trans hk
/-- One worker's ring is led on. -/
theorem RepAt.next {w w' : World} {lo L : Nat} {b : LogB} {s : LogS} {ans : Int → Option Int} {I : Nat} (h : RepAt w lo L b s ans I) (hI : I < s.cfg.sh) (ho : Only (fun k => k = b.rw I ∨ k = b.bw I) w w')
    (hr : oAt w' (b.rw I) (b.bw I) s.cfg.inb ((s.low + 1 : Nat) : Int) (ringOf OutV.zero (s.low + 1) s.cfg.inb (s.outv I))) : RepAt w' lo L b s ans (I + 1) := by
  have h0 := h.todo I hI (Nat.le_refl _)
  have ne : ∀ {k : Nat} {cs : Array Value} {t : TypeId} {fr : Nat × Nat}, w.heap[k]? = some (.cells cs t fr) → t ≠ 120 → t ≠ 128 → ¬ (k = b.rw I ∨ k = b.bw I) := fun h1 h2 h3 e => e.elim (blk_ne h1 h0.hR h2) (blk_ne h1 h0.hB h3)
  have other : ∀ {j : Nat} {low : Int} {ps : List (OutV × Bool)}, j < s.cfg.sh → j ≠ I → oAt w (b.rw j) (b.bw j) s.cfg.inb low ps → oAt w' (b.rw j) (b.bw j) s.cfg.inb low ps := fun hj hne hh =>
    hh.kept ho (fun e => e.elim (h.apart _ _ hj hI hne).1 (blk_ne hh.hR h0.hB (by decide))) (fun e => e.elim (blk_ne hh.hB h0.hR (by decide)) (h.apart _ _ hj hI hne).2)
  refine ⟨ho.block h.hL (ne h.hL (by decide) (by decide)), h.ring.kept ho (ne h.ring.hR (by decide) (by decide)) (ne h.ring.hB (by decide) (by decide)), ho.block h.curs (ne h.curs (by decide) (by decide)), ownsRow_keptT h.outs (fun k cs fr hc => ho.block hc (ne hc (by decide) (by decide))), fun j hj h2 => ?_, fun j hj h2 => other hj (by omega) (h.todo j hj (by omega)), h.apart, fun i p x hi hx => ?_, ?_⟩
  · by_cases e : j = I
    · rw [e]; exact hr
    · exact other hj e (h.done j hj (by omega))
  · rcases h.lost i p x hi hx with h1 | ⟨k, h1, h2, h3⟩
    · exact .inl h1
    · exact .inr ⟨k, h1, h2, ho.block h3 (ne h3 (by decide) (by decide))⟩
  · obtain ⟨an, D, h0', ⟨es, clock, h1, h2⟩, h3⟩ := h.ans.ex
    refine ⟨an, D, h0', ⟨es, clock, ho.block h1 ?_, h2⟩, h3⟩
    rintro (e | e)
    · rw [e, h0.hR] at h1; cases h1
    · rw [e, h0.hB] at h1; cases h1
def LogS.lowered (s : LogS) : LogS := { s with low := s.low + 1 }
/-- May the log be led on? All that have not left are ahead. -/
theorem LogI.lowered {s : LogS} (h : LogI s) (h1 : s.low < s.tail) (hc : ∀ i, i < s.cfg.sh → s.cur i = -1 ∨ (s.low : Int) < s.cur i) : LogI s.lowered := by
  refine ⟨h.sh1, h.sh2, h.inb1, h.inb2, h.st1, h.st2, h1, ?_, h.cmd, fun i hi => ?_, h.out, h.cur2⟩
  · show s.tail ≤ s.low + 1 + s.cfg.inb
    have := h.room
    omega
  · rcases h.cur1 i hi with h2 | h2
    · exact .inl h2
    · refine .inr ⟨?_, h2.2⟩
      show ((s.low + 1 : Nat) : Int) ≤ s.cur i
      rcases hc i hi with h3 | h3
      · omega
      · omega
theorem RepAt.all {w : World} {lo L : Nat} {b : LogB} {s : LogS} {ans : Int → Option Int} (h : RepAt w lo L b s ans s.cfg.sh) (hi : LogI s.lowered) (hlo : lo ≤ L ∧ lo ≤ b.R ∧ lo ≤ b.B ∧ lo ≤ b.C ∧ lo ≤ b.M ∧ ∀ i, i < s.cfg.sh → lo ≤ b.rw i ∧ lo ≤ b.bw i) : LogAt w lo L b { s.lowered with ans := ans } :=
  ⟨h.hL, h.ring, h.curs, h.outs, fun i hi => h.done i hi hi, h.apart, h.lost, h.ans, ⟨hi.sh1, hi.sh2, hi.inb1, hi.inb2, hi.st1, hi.st2, hi.low, hi.room, hi.cmd, hi.cur1, hi.out, hi.cur2⟩, hlo⟩
end Go.Proofs.Ytibbnikfecilhaa
