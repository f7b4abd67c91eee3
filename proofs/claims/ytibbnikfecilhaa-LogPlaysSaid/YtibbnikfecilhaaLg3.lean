/- Chapter 19: what is done with a log: Fill, Leave, Post. (Printed by lggen.py.) -/
import Derived.Test.YtibbnikfecilhaaLg2
namespace Go.Proofs.Ytibbnikfecilhaa
open Go.RowKit
set_option linter.unusedVariables false
set_option linter.unusedSimpArgs false

theorem LogAt.cmdd {w w' : World} {lo L : Nat} {b : LogB} {s : LogS} (h : LogAt w lo L b s) (ho : Only (fun k => k = b.B) w w') (f : Nat → Option CmdV)
    (hr : cAt w' b.R b.B s.cfg.inb s.low (ringOf CmdV.zero s.low s.cfg.inb f)) (hi : LogI { s with cmd := f }) : LogAt w' lo L b { s with cmd := f } := by
  have ne : ∀ {k : Nat} {cs : Array Value} {t : TypeId} {fr : Nat × Nat}, w.heap[k]? = some (.cells cs t fr) → t ≠ 124 → ¬ k = b.B := fun h1 h2 => blk_ne h1 h.ring.hB h2
  refine ⟨ho.block h.hL (ne h.hL (by decide)), hr, ho.block h.curs (ne h.curs (by decide)), ownsRow_keptT h.outs (fun k cs fr hc => ho.block hc (ne hc (by decide))), fun i hi => (h.orng i hi).kept ho (ne (h.orng i hi).hR (by decide)) (ne (h.orng i hi).hB (by decide)), h.apart, fun i p x hi hx => ?_, ?_, hi, h.lo⟩
  · rcases h.lost i p x hi hx with h1 | ⟨k, h1, h2, h3⟩
    · exact .inl h1
    · exact .inr ⟨k, h1, h2, ho.block h3 (ne h3 (by decide))⟩
  · obtain ⟨an, D, h0', ⟨es, clock, h1, h2⟩, h3⟩ := h.ans.ex
    refine ⟨an, D, h0', ⟨es, clock, ho.block h1 ?_, h2⟩, h3⟩
    intro e
    rw [e, h.ring.hB] at h1
    cases h1
def LogS.fills (s : LogS) (at_ : Int) : Bool := decide (at_ < s.tail) && decide ((s.low : Int) ≤ at_ ∧ at_ < s.low + s.cfg.inb ∧ s.cmd at_.toNat = none)
def LogS.filled (s : LogS) (at_ : Int) (x : CmdV) : LogS := { s with cmd := upd s.cmd at_.toNat (some x) }
theorem LogI.filled {s : LogS} (h : LogI s) (at_ : Int) (x : CmdV) (h0 : 0 ≤ at_) (h1 : at_ < s.tail) : LogI (s.filled at_ x) := by
  refine ⟨h.sh1, h.sh2, h.inb1, h.inb2, h.st1, h.st2, h.low, h.room, fun p hp => ?_, h.cur1, h.out, h.cur2⟩
  have hp : s.tail ≤ p := hp
  show upd s.cmd at_.toNat (some x) p = none
  rw [upd_other _ _ (by omega)]
  exact h.cmd p hp
set_option maxHeartbeats 4000000 in
theorem logFill {w : World} {lo L : Nat} {b : LogB} {s : LogS} (h : LogAt w lo L b s) (at_ : Int) (x : CmdV) (r : Bool) (hr : s.fills at_ = r) (s' : LogS) (hs' : (if r = true then s.filled at_ x else s) = s') (ht : -9223372036854775808 ≤ at_ ∧ at_ ≤ 9223372036854775807) :
    Calls Try.prog 13 #[.pointer (some ⟨L, 0, none⟩), .int .i64 at_, .agg x.cells.toArray] w fun e w' => e = .returned (.bool r) ∧ LogAt w' lo L b s' ∧ Only (fun k => k = b.B) w w' := by
  obtain ⟨kd, nn⟩ := x
  have hb1 := bl_alloc (Below.refl _ w) (.cells #[.int .i64 kd, .int .i64 0, .int .i64 nn, .int .i64 0, .int .i64 0, .int .i64 0, .int .i64 0, .int .i64 0, .int .i64 0, .int .i64 0, .int .i64 0, .slice none 0 0, .int .i64 0, .bool false] 39)
  have hz := alloc_new w (.cells #[.int .i64 kd, .int .i64 0, .int .i64 nn, .int .i64 0, .int .i64 0, .int .i64 0, .int .i64 0, .int .i64 0, .int .i64 0, .int .i64 0, .int .i64 0, .slice none 0 0, .int .i64 0, .bool false] 39)
  have h1 := h.below hb1
  have c9 : (w.alloc (.cells #[.int .i64 kd, .int .i64 0, .int .i64 nn, .int .i64 0, .int .i64 0, .int .i64 0, .int .i64 0, .int .i64 0, .int .i64 0, .int .i64 0, .int .i64 0, .slice none 0 0, .int .i64 0, .bool false] 39)).cell? ⟨L, 9, none⟩ = some (.int .i64 s.tail) := lgCell h1 9
  have c11 : (w.alloc (.cells #[.int .i64 kd, .int .i64 0, .int .i64 nn, .int .i64 0, .int .i64 0, .int .i64 0, .int .i64 0, .int .i64 0, .int .i64 0, .int .i64 0, .int .i64 0, .slice none 0 0, .int .i64 0, .bool false] 39)).cell? ⟨L, 11, none⟩ = some (.pointer (some ⟨b.R, 0, none⟩)) := lgCell h1 11
  have hs1 := h.inv.st1
  have hs2 := h.inv.st2
  change Calls Try.prog 13 #[.pointer (some ⟨L, 0, none⟩), .int .i64 at_, .agg #[.int .i64 kd, .int .i64 0, .int .i64 nn, .int .i64 0, .int .i64 0, .int .i64 0, .int .i64 0, .int .i64 0, .int .i64 0, .int .i64 0, .int .i64 0, .slice none 0 0, .int .i64 0, .bool false]] w _
  unfold LogS.fills at hr
  by_cases g : at_ < s.tail
  · rw [decide_eq_true g, Bool.true_and] at hr
    have hput := cput_any (h1.ring.drewN 1) ⟨kd, nn⟩ at_ (by omega)
    rw [cok_of, hr] at hput
    have hstep : ∀ w', cAt w' b.R b.B s.cfg.inb s.low (if r = true then cput (ringOf CmdV.zero s.low s.cfg.inb s.cmd) at_ ⟨kd, nn⟩ else ringOf CmdV.zero s.low s.cfg.inb s.cmd) → Only (fun k => k = b.B) ((w.alloc (.cells #[.int .i64 kd, .int .i64 0, .int .i64 nn, .int .i64 0, .int .i64 0, .int .i64 0, .int .i64 0, .int .i64 0, .int .i64 0, .int .i64 0, .int .i64 0, .slice none 0 0, .int .i64 0, .bool false] 39)).drewN 1) w' → LogAt w' lo L b s' ∧ Only (fun k => k = b.B) w w' := fun w' hc ho => by
      rw [← hs']
      have ho1 : Only (fun k => k = b.B) w ((w.alloc (.cells #[.int .i64 kd, .int .i64 0, .int .i64 nn, .int .i64 0, .int .i64 0, .int .i64 0, .int .i64 0, .int .i64 0, .int .i64 0, .int .i64 0, .int .i64 0, .slice none 0 0, .int .i64 0, .bool false] 39)).drewN 1) := ((Only.refl _ w).alloc _).drewN 1
      refine ⟨?_, ho1.trans ho⟩
      have hd := h1.below (bl_drewN (Below.refl _ _) 1)
      cases r
      · simp only [Bool.false_eq_true, if_false] at hc ⊢
        have := hd.cmdd ho s.cmd hc hd.inv
        exact this
      · simp only [if_true] at hc ⊢
        obtain ⟨k1, k2, _⟩ := of_decide_eq_true hr
        obtain ⟨p, rfl⟩ : ∃ p : Nat, at_ = p := ⟨at_.toNat, by omega⟩
        rw [cput_of (by omega) (by omega)] at hc
        have := hd.cmdd ho (upd s.cmd p (some ⟨kd, nn⟩)) hc (hd.inv.filled p ⟨kd, nn⟩ (by omega) g)
        exact this
    have hstill : ∀ w', Only (fun k => k = b.B) ((w.alloc (.cells #[.int .i64 kd, .int .i64 0, .int .i64 nn, .int .i64 0, .int .i64 0, .int .i64 0, .int .i64 0, .int .i64 0, .int .i64 0, .int .i64 0, .int .i64 0, .slice none 0 0, .int .i64 0, .bool false] 39)).drewN 1) w' → w'.cell? ⟨L, 9, none⟩ = some (.int .i64 s.tail) ∧ w'.cell? ⟨L, 11, none⟩ = some (.pointer (some ⟨b.R, 0, none⟩)) ∧ w'.cell? ⟨w.heap.size, 0, none⟩ = some (.int .i64 kd) ∧ w'.cell? ⟨w.heap.size, 1, none⟩ = some (.int .i64 0) ∧ w'.cell? ⟨w.heap.size, 2, none⟩ = some (.int .i64 nn) ∧ w'.cell? ⟨w.heap.size, 3, none⟩ = some (.int .i64 0) ∧ w'.cell? ⟨w.heap.size, 4, none⟩ = some (.int .i64 0) ∧ w'.cell? ⟨w.heap.size, 5, none⟩ = some (.int .i64 0) ∧ w'.cell? ⟨w.heap.size, 6, none⟩ = some (.int .i64 0) ∧ w'.cell? ⟨w.heap.size, 7, none⟩ = some (.int .i64 0) ∧ w'.cell? ⟨w.heap.size, 8, none⟩ = some (.int .i64 0) ∧ w'.cell? ⟨w.heap.size, 9, none⟩ = some (.int .i64 0) ∧ w'.cell? ⟨w.heap.size, 10, none⟩ = some (.int .i64 0) ∧ w'.cell? ⟨w.heap.size, 11, none⟩ = some (.slice none 0 0) ∧ w'.cell? ⟨w.heap.size, 12, none⟩ = some (.int .i64 0) ∧ w'.cell? ⟨w.heap.size, 13, none⟩ = some (.bool false) := fun w' ho => by
      have hL := ho.block (k := L) h1.hL (blk_ne h1.hL h1.ring.hB (by decide))
      have hX := ho.block (k := w.heap.size) hz (by have := block_lt h.ring.hB; omega)
      exact ⟨cell_of_blk (cs := lgCells b s) hL 9, cell_of_blk (cs := lgCells b s) hL 11, cell_of_blk (cs := [.int .i64 kd, .int .i64 0, .int .i64 nn, .int .i64 0, .int .i64 0, .int .i64 0, .int .i64 0, .int .i64 0, .int .i64 0, .int .i64 0, .int .i64 0, .slice none 0 0, .int .i64 0, .bool false]) hX 0, cell_of_blk (cs := [.int .i64 kd, .int .i64 0, .int .i64 nn, .int .i64 0, .int .i64 0, .int .i64 0, .int .i64 0, .int .i64 0, .int .i64 0, .int .i64 0, .int .i64 0, .slice none 0 0, .int .i64 0, .bool false]) hX 1, cell_of_blk (cs := [.int .i64 kd, .int .i64 0, .int .i64 nn, .int .i64 0, .int .i64 0, .int .i64 0, .int .i64 0, .int .i64 0, .int .i64 0, .int .i64 0, .int .i64 0, .slice none 0 0, .int .i64 0, .bool false]) hX 2, cell_of_blk (cs := [.int .i64 kd, .int .i64 0, .int .i64 nn, .int .i64 0, .int .i64 0, .int .i64 0, .int .i64 0, .int .i64 0, .int .i64 0, .int .i64 0, .int .i64 0, .slice none 0 0, .int .i64 0, .bool false]) hX 3, cell_of_blk (cs := [.int .i64 kd, .int .i64 0, .int .i64 nn, .int .i64 0, .int .i64 0, .int .i64 0, .int .i64 0, .int .i64 0, .int .i64 0, .int .i64 0, .int .i64 0, .slice none 0 0, .int .i64 0, .bool false]) hX 4, cell_of_blk (cs := [.int .i64 kd, .int .i64 0, .int .i64 nn, .int .i64 0, .int .i64 0, .int .i64 0, .int .i64 0, .int .i64 0, .int .i64 0, .int .i64 0, .int .i64 0, .slice none 0 0, .int .i64 0, .bool false]) hX 5, cell_of_blk (cs := [.int .i64 kd, .int .i64 0, .int .i64 nn, .int .i64 0, .int .i64 0, .int .i64 0, .int .i64 0, .int .i64 0, .int .i64 0, .int .i64 0, .int .i64 0, .slice none 0 0, .int .i64 0, .bool false]) hX 6, cell_of_blk (cs := [.int .i64 kd, .int .i64 0, .int .i64 nn, .int .i64 0, .int .i64 0, .int .i64 0, .int .i64 0, .int .i64 0, .int .i64 0, .int .i64 0, .int .i64 0, .slice none 0 0, .int .i64 0, .bool false]) hX 7, cell_of_blk (cs := [.int .i64 kd, .int .i64 0, .int .i64 nn, .int .i64 0, .int .i64 0, .int .i64 0, .int .i64 0, .int .i64 0, .int .i64 0, .int .i64 0, .int .i64 0, .slice none 0 0, .int .i64 0, .bool false]) hX 8, cell_of_blk (cs := [.int .i64 kd, .int .i64 0, .int .i64 nn, .int .i64 0, .int .i64 0, .int .i64 0, .int .i64 0, .int .i64 0, .int .i64 0, .int .i64 0, .int .i64 0, .slice none 0 0, .int .i64 0, .bool false]) hX 9, cell_of_blk (cs := [.int .i64 kd, .int .i64 0, .int .i64 nn, .int .i64 0, .int .i64 0, .int .i64 0, .int .i64 0, .int .i64 0, .int .i64 0, .int .i64 0, .int .i64 0, .slice none 0 0, .int .i64 0, .bool false]) hX 10, cell_of_blk (cs := [.int .i64 kd, .int .i64 0, .int .i64 nn, .int .i64 0, .int .i64 0, .int .i64 0, .int .i64 0, .int .i64 0, .int .i64 0, .int .i64 0, .int .i64 0, .slice none 0 0, .int .i64 0, .bool false]) hX 11, cell_of_blk (cs := [.int .i64 kd, .int .i64 0, .int .i64 nn, .int .i64 0, .int .i64 0, .int .i64 0, .int .i64 0, .int .i64 0, .int .i64 0, .int .i64 0, .int .i64 0, .slice none 0 0, .int .i64 0, .bool false]) hX 12, cell_of_blk (cs := [.int .i64 kd, .int .i64 0, .int .i64 nn, .int .i64 0, .int .i64 0, .int .i64 0, .int .i64 0, .int .i64 0, .int .i64 0, .int .i64 0, .int .i64 0, .slice none 0 0, .int .i64 0, .bool false]) hX 13⟩
    have HSTILL := Lib.hid hstill
    have HSTEP := Lib.hid hstep
    have HPUT := Lib.hid hput
    have x0 : (w.alloc (.cells #[.int .i64 kd, .int .i64 0, .int .i64 nn, .int .i64 0, .int .i64 0, .int .i64 0, .int .i64 0, .int .i64 0, .int .i64 0, .int .i64 0, .int .i64 0, .slice none 0 0, .int .i64 0, .bool false] 39)).cell? ⟨w.heap.size, 0, none⟩ = some (.int .i64 kd) := cell_of_blk (cs := [.int .i64 kd, .int .i64 0, .int .i64 nn, .int .i64 0, .int .i64 0, .int .i64 0, .int .i64 0, .int .i64 0, .int .i64 0, .int .i64 0, .int .i64 0, .slice none 0 0, .int .i64 0, .bool false]) hz 0
    have x1 : (w.alloc (.cells #[.int .i64 kd, .int .i64 0, .int .i64 nn, .int .i64 0, .int .i64 0, .int .i64 0, .int .i64 0, .int .i64 0, .int .i64 0, .int .i64 0, .int .i64 0, .slice none 0 0, .int .i64 0, .bool false] 39)).cell? ⟨w.heap.size, 1, none⟩ = some (.int .i64 0) := cell_of_blk (cs := [.int .i64 kd, .int .i64 0, .int .i64 nn, .int .i64 0, .int .i64 0, .int .i64 0, .int .i64 0, .int .i64 0, .int .i64 0, .int .i64 0, .int .i64 0, .slice none 0 0, .int .i64 0, .bool false]) hz 1
    have x2 : (w.alloc (.cells #[.int .i64 kd, .int .i64 0, .int .i64 nn, .int .i64 0, .int .i64 0, .int .i64 0, .int .i64 0, .int .i64 0, .int .i64 0, .int .i64 0, .int .i64 0, .slice none 0 0, .int .i64 0, .bool false] 39)).cell? ⟨w.heap.size, 2, none⟩ = some (.int .i64 nn) := cell_of_blk (cs := [.int .i64 kd, .int .i64 0, .int .i64 nn, .int .i64 0, .int .i64 0, .int .i64 0, .int .i64 0, .int .i64 0, .int .i64 0, .int .i64 0, .int .i64 0, .slice none 0 0, .int .i64 0, .bool false]) hz 2
    have x3 : (w.alloc (.cells #[.int .i64 kd, .int .i64 0, .int .i64 nn, .int .i64 0, .int .i64 0, .int .i64 0, .int .i64 0, .int .i64 0, .int .i64 0, .int .i64 0, .int .i64 0, .slice none 0 0, .int .i64 0, .bool false] 39)).cell? ⟨w.heap.size, 3, none⟩ = some (.int .i64 0) := cell_of_blk (cs := [.int .i64 kd, .int .i64 0, .int .i64 nn, .int .i64 0, .int .i64 0, .int .i64 0, .int .i64 0, .int .i64 0, .int .i64 0, .int .i64 0, .int .i64 0, .slice none 0 0, .int .i64 0, .bool false]) hz 3
    have x4 : (w.alloc (.cells #[.int .i64 kd, .int .i64 0, .int .i64 nn, .int .i64 0, .int .i64 0, .int .i64 0, .int .i64 0, .int .i64 0, .int .i64 0, .int .i64 0, .int .i64 0, .slice none 0 0, .int .i64 0, .bool false] 39)).cell? ⟨w.heap.size, 4, none⟩ = some (.int .i64 0) := cell_of_blk (cs := [.int .i64 kd, .int .i64 0, .int .i64 nn, .int .i64 0, .int .i64 0, .int .i64 0, .int .i64 0, .int .i64 0, .int .i64 0, .int .i64 0, .int .i64 0, .slice none 0 0, .int .i64 0, .bool false]) hz 4
    have x5 : (w.alloc (.cells #[.int .i64 kd, .int .i64 0, .int .i64 nn, .int .i64 0, .int .i64 0, .int .i64 0, .int .i64 0, .int .i64 0, .int .i64 0, .int .i64 0, .int .i64 0, .slice none 0 0, .int .i64 0, .bool false] 39)).cell? ⟨w.heap.size, 5, none⟩ = some (.int .i64 0) := cell_of_blk (cs := [.int .i64 kd, .int .i64 0, .int .i64 nn, .int .i64 0, .int .i64 0, .int .i64 0, .int .i64 0, .int .i64 0, .int .i64 0, .int .i64 0, .int .i64 0, .slice none 0 0, .int .i64 0, .bool false]) hz 5
    have x6 : (w.alloc (.cells #[.int .i64 kd, .int .i64 0, .int .i64 nn, .int .i64 0, .int .i64 0, .int .i64 0, .int .i64 0, .int .i64 0, .int .i64 0, .int .i64 0, .int .i64 0, .slice none 0 0, .int .i64 0, .bool false] 39)).cell? ⟨w.heap.size, 6, none⟩ = some (.int .i64 0) := cell_of_blk (cs := [.int .i64 kd, .int .i64 0, .int .i64 nn, .int .i64 0, .int .i64 0, .int .i64 0, .int .i64 0, .int .i64 0, .int .i64 0, .int .i64 0, .int .i64 0, .slice none 0 0, .int .i64 0, .bool false]) hz 6
    have x7 : (w.alloc (.cells #[.int .i64 kd, .int .i64 0, .int .i64 nn, .int .i64 0, .int .i64 0, .int .i64 0, .int .i64 0, .int .i64 0, .int .i64 0, .int .i64 0, .int .i64 0, .slice none 0 0, .int .i64 0, .bool false] 39)).cell? ⟨w.heap.size, 7, none⟩ = some (.int .i64 0) := cell_of_blk (cs := [.int .i64 kd, .int .i64 0, .int .i64 nn, .int .i64 0, .int .i64 0, .int .i64 0, .int .i64 0, .int .i64 0, .int .i64 0, .int .i64 0, .int .i64 0, .slice none 0 0, .int .i64 0, .bool false]) hz 7
    have x8 : (w.alloc (.cells #[.int .i64 kd, .int .i64 0, .int .i64 nn, .int .i64 0, .int .i64 0, .int .i64 0, .int .i64 0, .int .i64 0, .int .i64 0, .int .i64 0, .int .i64 0, .slice none 0 0, .int .i64 0, .bool false] 39)).cell? ⟨w.heap.size, 8, none⟩ = some (.int .i64 0) := cell_of_blk (cs := [.int .i64 kd, .int .i64 0, .int .i64 nn, .int .i64 0, .int .i64 0, .int .i64 0, .int .i64 0, .int .i64 0, .int .i64 0, .int .i64 0, .int .i64 0, .slice none 0 0, .int .i64 0, .bool false]) hz 8
    have x9 : (w.alloc (.cells #[.int .i64 kd, .int .i64 0, .int .i64 nn, .int .i64 0, .int .i64 0, .int .i64 0, .int .i64 0, .int .i64 0, .int .i64 0, .int .i64 0, .int .i64 0, .slice none 0 0, .int .i64 0, .bool false] 39)).cell? ⟨w.heap.size, 9, none⟩ = some (.int .i64 0) := cell_of_blk (cs := [.int .i64 kd, .int .i64 0, .int .i64 nn, .int .i64 0, .int .i64 0, .int .i64 0, .int .i64 0, .int .i64 0, .int .i64 0, .int .i64 0, .int .i64 0, .slice none 0 0, .int .i64 0, .bool false]) hz 9
    have x10 : (w.alloc (.cells #[.int .i64 kd, .int .i64 0, .int .i64 nn, .int .i64 0, .int .i64 0, .int .i64 0, .int .i64 0, .int .i64 0, .int .i64 0, .int .i64 0, .int .i64 0, .slice none 0 0, .int .i64 0, .bool false] 39)).cell? ⟨w.heap.size, 10, none⟩ = some (.int .i64 0) := cell_of_blk (cs := [.int .i64 kd, .int .i64 0, .int .i64 nn, .int .i64 0, .int .i64 0, .int .i64 0, .int .i64 0, .int .i64 0, .int .i64 0, .int .i64 0, .int .i64 0, .slice none 0 0, .int .i64 0, .bool false]) hz 10
    have x11 : (w.alloc (.cells #[.int .i64 kd, .int .i64 0, .int .i64 nn, .int .i64 0, .int .i64 0, .int .i64 0, .int .i64 0, .int .i64 0, .int .i64 0, .int .i64 0, .int .i64 0, .slice none 0 0, .int .i64 0, .bool false] 39)).cell? ⟨w.heap.size, 11, none⟩ = some (.slice none 0 0) := cell_of_blk (cs := [.int .i64 kd, .int .i64 0, .int .i64 nn, .int .i64 0, .int .i64 0, .int .i64 0, .int .i64 0, .int .i64 0, .int .i64 0, .int .i64 0, .int .i64 0, .slice none 0 0, .int .i64 0, .bool false]) hz 11
    have x12 : (w.alloc (.cells #[.int .i64 kd, .int .i64 0, .int .i64 nn, .int .i64 0, .int .i64 0, .int .i64 0, .int .i64 0, .int .i64 0, .int .i64 0, .int .i64 0, .int .i64 0, .slice none 0 0, .int .i64 0, .bool false] 39)).cell? ⟨w.heap.size, 12, none⟩ = some (.int .i64 0) := cell_of_blk (cs := [.int .i64 kd, .int .i64 0, .int .i64 nn, .int .i64 0, .int .i64 0, .int .i64 0, .int .i64 0, .int .i64 0, .int .i64 0, .int .i64 0, .int .i64 0, .slice none 0 0, .int .i64 0, .bool false]) hz 12
    have x13 : (w.alloc (.cells #[.int .i64 kd, .int .i64 0, .int .i64 nn, .int .i64 0, .int .i64 0, .int .i64 0, .int .i64 0, .int .i64 0, .int .i64 0, .int .i64 0, .int .i64 0, .slice none 0 0, .int .i64 0, .bool false] 39)).cell? ⟨w.heap.size, 13, none⟩ = some (.bool false) := cell_of_blk (cs := [.int .i64 kd, .int .i64 0, .int .i64 nn, .int .i64 0, .int .i64 0, .int .i64 0, .int .i64 0, .int .i64 0, .int .i64 0, .int .i64 0, .int .i64 0, .slice none 0 0, .int .i64 0, .bool false]) hz 13
    clear h h1 hb1 hz hstep hput hstill hs'
    go_enter Try.func13, Try.ntmps13
    go_wp2_with fail
    go_region_held3 (fun w' => w'.cell? ⟨L, 9, none⟩ = some (.int .i64 s.tail) ∧ w'.cell? ⟨L, 11, none⟩ = some (.pointer (some ⟨b.R, 0, none⟩)) ∧ w'.cell? ⟨w.heap.size, 0, none⟩ = some (.int .i64 kd) ∧ w'.cell? ⟨w.heap.size, 1, none⟩ = some (.int .i64 0) ∧ w'.cell? ⟨w.heap.size, 2, none⟩ = some (.int .i64 nn) ∧ w'.cell? ⟨w.heap.size, 3, none⟩ = some (.int .i64 0) ∧ w'.cell? ⟨w.heap.size, 4, none⟩ = some (.int .i64 0) ∧ w'.cell? ⟨w.heap.size, 5, none⟩ = some (.int .i64 0) ∧ w'.cell? ⟨w.heap.size, 6, none⟩ = some (.int .i64 0) ∧ w'.cell? ⟨w.heap.size, 7, none⟩ = some (.int .i64 0) ∧ w'.cell? ⟨w.heap.size, 8, none⟩ = some (.int .i64 0) ∧ w'.cell? ⟨w.heap.size, 9, none⟩ = some (.int .i64 0) ∧ w'.cell? ⟨w.heap.size, 10, none⟩ = some (.int .i64 0) ∧ w'.cell? ⟨w.heap.size, 11, none⟩ = some (.slice none 0 0) ∧ w'.cell? ⟨w.heap.size, 12, none⟩ = some (.int .i64 0) ∧ w'.cell? ⟨w.heap.size, 13, none⟩ = some (.bool false)) (first | exact hcj | exact ⟨c9, c11, x0, x1, x2, x3, x4, x5, x6, x7, x8, x9, x10, x11, x12, x13⟩) (first
      | (go_at_call 39; refine HPUT.out.mono ?_; rintro e w2 ⟨rfl, hc2, ho2⟩; have hcj := HSTILL.out w2 ho2))
    go_wp2_with fail
    go_ret
    exact ⟨rfl, HSTEP.out _ hc2 ho2⟩
  · rw [decide_eq_false g, Bool.false_and] at hr
    subst hr
    simp only [Bool.false_eq_true, if_false] at hs'
    subst hs'
    have d1 : decide (at_ < (s.tail : Int)) = false := decide_eq_false (by omega)
    have HH := Lib.hid h1
    clear h h1 hb1 hz
    go_enter Try.func13, Try.ntmps13
    go_wp2_with fail
    go_quiet (fail)
    go_wp2_with fail
    go_ret
    exact ⟨rfl, HH.out.below (bl_drewN (Below.refl _ _) _), ((Only.refl _ w).alloc _).drewN _⟩
end Go.Proofs.Ytibbnikfecilhaa
