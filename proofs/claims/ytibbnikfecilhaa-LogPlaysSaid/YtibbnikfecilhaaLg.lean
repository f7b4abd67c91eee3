/- Chapter 19: a log in memory. -/
import Derived.Test.YtibbnikfecilhaaLgP
import Derived.Maps.OwnSet
import Derived.Maps.Views
import Derived.Deep.DeepCutAuto
import Derived.Deep.CutBlock
namespace Go.Proofs.Ytibbnikfecilhaa
open Go.RowKit
open Go.Maps (Keyed)
set_option linter.unusedVariables false
set_option linter.unusedSimpArgs false

/-- A config. -/
structure CfgV where
  sh : Nat
  inb : Nat
  sl : Int
  qu : Int
  ru : Int
  ou : Int
  st : Int
def CfgV.cells (c : CfgV) : List Value := [.int .i64 c.sh, .int .i64 c.inb, .int .i64 c.sl, .int .i64 c.qu, .int .i64 c.ru, .int .i64 c.ou, .int .i64 c.st]
/-- Where its parts lie. -/
structure LogB where
  R : Nat
  B : Nat
  C : Nat
  O : Nat
  oc : Nat
  M : Nat
  st : Option Addr
  ep : Option Addr
  rw : Nat → Nat
  bw : Nat → Nat
/-- What a log is. -/
structure LogS where
  cfg : CfgV
  tail : Nat
  low : Nat
  closed : Bool
  cmd : Nat → Option CmdV
  cur : Nat → Int
  out : Nat → Nat → Option (OutV × Int)
  ans : Int → Option Int
def LogS.outv (s : LogS) (i : Nat) : Nat → Option OutV := fun p => (s.out i p).map (·.1)
def lgCells (b : LogB) (s : LogS) : List Value := [.int .i64 s.cfg.sh, .int .i64 s.cfg.inb, .int .i64 s.cfg.sl, .int .i64 s.cfg.qu, .int .i64 s.cfg.ru, .int .i64 s.cfg.ou, .int .i64 s.cfg.st,
  .pointer b.st, .pointer b.ep, .int .i64 s.tail, .bool s.closed, .pointer (some ⟨b.R, 0, none⟩), .slice (some ⟨b.C, 0, none⟩) s.cfg.sh s.cfg.sh, .slice (some ⟨b.O, 0, none⟩) s.cfg.sh b.oc, .map (some b.M)]
def curCells (s : LogS) : List Value := (List.range s.cfg.sh).map fun i => .int .i64 (s.cur i)
def ptrCells (b : LogB) (m : Nat) : List Value := (List.range m).map fun i => .pointer (some ⟨b.rw i, 0, none⟩)
/-- What a worker told, as it can be read. -/
def LostIn (w : World) (C : Nat) (x : OutV × Int) : Prop := x = (⟨none, 0, 0⟩, -1) ∨ ∃ k, k ≠ C ∧ x.1 = ⟨some ⟨k, 0, none⟩, 1, 1⟩ ∧ w.heap[k]? = some (.cells #[.int .i64 x.2] 3 (0, 0))
/-- How an answer reads: by its number. -/
def ansElem (v : Value) : Option (DataW Unit × List MemPlace) :=
  match v with
  | .agg a => match a.toList with
    | [.int k0 z0, .int k1 z1, .slice p l c] => if (k0 = .i64 ∧ z0 = 0) ∧ (k1 = .i64 ∧ p.isNone = true) ∧ l = 0 ∧ c = 0 then some (.lit (.int .i64 z1), []) else none
    | _ => none
  | _ => none
structure AnsAt (w : World) (M n : Nat) (ans : Int → Option Int) : Prop where
  ex : ∃ (an : Nat) (D : DataW Unit), an ≤ n ∧ w.ownsMap Try.prog 3 ansElem M an D ∧ ∀ k : Int, match ans k with | some z => Maps.has D (.int .i64 k) = true ∧ (∀ zd, D.atKey (.int .i64 k) zd = .lit (.int .i64 z)) | none => Maps.has D (.int .i64 k) = false
theorem AnsAt.mono {w : World} {M n m : Nat} {ans : Int → Option Int} (h : AnsAt w M n ans) (hm : n ≤ m) : AnsAt w M m ans := by
  obtain ⟨an, D, h1, h2⟩ := h.ex
  exact ⟨an, D, Nat.le_trans h1 hm, h2⟩
/-- What a log keeps to. -/
structure LogI (s : LogS) : Prop where
  sh1 : 1 ≤ s.cfg.sh
  sh2 : s.cfg.sh ≤ 15
  inb1 : 1 ≤ s.cfg.inb
  inb2 : s.cfg.inb ≤ 4096
  st1 : (s.tail : Int) ≤ s.cfg.st
  st2 : s.cfg.st ≤ 1099511627776
  low : s.low ≤ s.tail
  room : s.tail ≤ s.low + s.cfg.inb
  cmd : ∀ p, s.tail ≤ p → s.cmd p = none
  cur1 : ∀ i, i < s.cfg.sh → s.cur i = -1 ∨ (s.low : Int) ≤ s.cur i ∧ s.cur i ≤ s.tail
  out : ∀ i p, s.tail ≤ p → s.out i p = none
  cur2 : ∀ i p, i < s.cfg.sh → s.cur i = (p : Nat) → s.out i p = none ∧ ∀ q, p ≤ q → s.out i q = none
structure LogAt (w : World) (lo L : Nat) (b : LogB) (s : LogS) : Prop where
  hL : w.heap[L]? = some (.cells (lgCells b s).toArray 94 (0, 0))
  ring : cAt w b.R b.B s.cfg.inb s.low (ringOf CmdV.zero s.low s.cfg.inb s.cmd)
  curs : w.heap[b.C]? = some (.cells (curCells s).toArray 3 (0, 0))
  outs : w.ownsRow lo 95 1 (.slice (some ⟨b.O, 0, none⟩) s.cfg.sh b.oc) s.cfg.sh (ptrCells b s.cfg.sh)
  orng : ∀ i, i < s.cfg.sh → oAt w (b.rw i) (b.bw i) s.cfg.inb s.low (ringOf OutV.zero s.low s.cfg.inb (s.outv i))
  apart : ∀ i j, i < s.cfg.sh → j < s.cfg.sh → i ≠ j → b.rw i ≠ b.rw j ∧ b.bw i ≠ b.bw j
  lost : ∀ i p x, i < s.cfg.sh → s.out i p = some x → LostIn w b.C x
  ans : AnsAt w b.M s.low s.ans
  inv : LogI s
  lo : lo ≤ L ∧ lo ≤ b.R ∧ lo ≤ b.B ∧ lo ≤ b.C ∧ lo ≤ b.M ∧ ∀ i, i < s.cfg.sh → lo ≤ b.rw i ∧ lo ≤ b.bw i
/-- Is a thing of memory of a kind that a log is of? -/
def logT : Obj → Prop
  | .cells _ t _ => t = 94 ∨ t = 117 ∨ t = 124 ∨ t = 3 ∨ t = 95 ∨ t = 120 ∨ t = 128
  | _ => True
theorem LostIn.keptT {w w' : World} {C : Nat} {x : OutV × Int} (h : LostIn w C x) (hk : ∀ (k : Nat) (o : Obj), w.heap[k]? = some o → logT o → w'.heap[k]? = some o) : LostIn w' C x := by
  rcases h with h | ⟨k, h1, h2, h3⟩
  · exact .inl h
  · exact .inr ⟨k, h1, h2, hk _ _ h3 (by simp [logT])⟩
theorem AnsAt.keptT {w w' : World} {M n : Nat} {ans : Int → Option Int} (h : AnsAt w M n ans) (hk : ∀ (k : Nat) (o : Obj), w.heap[k]? = some o → logT o → w'.heap[k]? = some o) : AnsAt w' M n ans := by
  obtain ⟨an, D, h0, ⟨es, clock, h1, h2⟩, h3⟩ := h.ex
  exact ⟨an, D, h0, ⟨es, clock, hk _ _ h1 trivial, h2⟩, h3⟩
theorem cAt.keptT {w w' : World} {R B n : Nat} {low : Int} {ps : List (CmdV × Bool)} (h : cAt w R B n low ps) (hk : ∀ (k : Nat) (o : Obj), w.heap[k]? = some o → logT o → w'.heap[k]? = some o) : cAt w' R B n low ps :=
  ⟨hk _ _ h.hR (by simp [logT]), hk _ _ h.hB (by simp [logT]), h.ne, h.len, h.n1, h.n2, h.low0, h.low1⟩
theorem oAt.keptT {w w' : World} {R B n : Nat} {low : Int} {ps : List (OutV × Bool)} (h : oAt w R B n low ps) (hk : ∀ (k : Nat) (o : Obj), w.heap[k]? = some o → logT o → w'.heap[k]? = some o) : oAt w' R B n low ps :=
  ⟨hk _ _ h.hR (by simp [logT]), hk _ _ h.hB (by simp [logT]), h.ne, h.len, h.n1, h.n2, h.low0, h.low1⟩
theorem ownsRow_keptT {w w' : World} {lo : Nat} {e : TypeId} {size : Nat} {v : Value} {n : Nat} {xs : List Value} (h : w.ownsRow lo e size v n xs) (hk : ∀ (k : Nat) (cs : Array Value) (fr : Nat × Nat), w.heap[k]? = some (.cells cs e fr) → w'.heap[k]? = some (.cells cs e fr)) : w'.ownsRow lo e size v n xs := by
  refine ⟨h.1, ?_⟩
  rcases h.2 with h2 | ⟨g, cap, cur, rfl, hb, hg, h3⟩
  · exact .inl h2
  · exact .inr ⟨g, cap, cur, rfl, hb, hk _ _ _ hg, h3⟩
theorem LogAt.keptT {w w' : World} {lo L : Nat} {b : LogB} {s : LogS} (h : LogAt w lo L b s) (hk : ∀ (k : Nat) (o : Obj), w.heap[k]? = some o → logT o → w'.heap[k]? = some o) : LogAt w' lo L b s :=
  ⟨hk _ _ h.hL (by simp [logT]), h.ring.keptT hk, hk _ _ h.curs (by simp [logT]), ownsRow_keptT h.outs (fun k cs fr hc => hk _ _ hc (by simp [logT])), fun i hi => (h.orng i hi).keptT hk, h.apart, fun i p x hi hx => (h.lost i p x hi hx).keptT hk, h.ans.keptT hk, h.inv, h.lo⟩
theorem LogAt.below {w w' : World} {lo L : Nat} {b : LogB} {s : LogS} (h : LogAt w lo L b s) (hb : Below w.heap.size w w') : LogAt w' lo L b s := h.keptT fun k o hk _ => (hb.block k (block_lt hk)).trans hk
/-- The blocks that a log changes. -/
def Own (L : Nat) (b : LogB) (m : Nat) (k : Nat) : Prop := k = L ∨ k = b.R ∨ k = b.B ∨ k = b.C ∨ k = b.M ∨ ∃ i, i < m ∧ (k = b.rw i ∨ k = b.bw i)
/-- Two blocks of other kinds are two. -/
theorem blk_ne {w : World} {a b : Nat} {cs cs' : Array Value} {t t' : TypeId} {fr fr' : Nat × Nat} (h : w.heap[a]? = some (.cells cs t fr)) (h' : w.heap[b]? = some (.cells cs' t' fr')) (hne : t ≠ t') : a ≠ b := by
  rintro rfl
  have := h.symm.trans h'
  simp at this
  exact hne this.2.1
theorem lgCell {w : World} {lo L : Nat} {b : LogB} {s : LogS} (h : LogAt w lo L b s) (i : Nat) : w.cell? ⟨L, i, none⟩ = (lgCells b s)[i]? := cell_of_blk h.hL i
theorem LogAt.lowInt {w : World} {lo L : Nat} {b : LogB} {s : LogS} (h : LogAt w lo L b s) : (s.tail : Int) ≤ 1099511627776 := by have := h.inv.st1; have := h.inv.st2; omega
/-! ### What a log tells -/
theorem logLow {w : World} {lo L : Nat} {b : LogB} {s : LogS} (h : LogAt w lo L b s) : Calls Try.prog 21 #[.pointer (some ⟨L, 0, none⟩)] w fun e w' => e = .returned (.int .i64 s.low) ∧ w' = w := by
  have c11 : w.cell? ⟨L, 11, none⟩ = some (.pointer (some ⟨b.R, 0, none⟩)) := lgCell h 11
  have HC := Lib.hid (clow_any h.ring)
  clear h
  go_enter Try.func21, Try.ntmps21
  go_wp2_with fail
  refine HC.out.mono ?_
  rintro e w' ⟨rfl, rfl⟩
  go_wp2_with fail
  go_ret
  exact ⟨rfl, rfl⟩
theorem logTail {w : World} {lo L : Nat} {b : LogB} {s : LogS} (h : LogAt w lo L b s) : Calls Try.prog 25 #[.pointer (some ⟨L, 0, none⟩)] w fun e w' => e = .returned (.tuple #[.int .i64 s.tail, .bool s.closed]) ∧ ∃ j, w' = w.drewN j := by
  have c9 : w.cell? ⟨L, 9, none⟩ = some (.int .i64 s.tail) := lgCell h 9
  have c10 : w.cell? ⟨L, 10, none⟩ = some (.bool s.closed) := lgCell h 10
  clear h
  go_enter Try.func25, Try.ntmps25
  go_wp2_with fail
  go_quiet (fail)
  go_wp2_with fail
  go_ret2
  exact ⟨rfl, _, rfl⟩
/-- What lies at a stamp. -/
def LogS.look (s : LogS) (at_ : Int) : Option CmdV := if (s.low : Int) ≤ at_ then s.cmd at_.toNat else none
theorem look_get {s : LogS} (h : LogI s) (at_ : Int) : cget (ringOf CmdV.zero s.low s.cfg.inb s.cmd) s.low at_ = entry CmdV.zero (s.look at_) := by
  rw [cget_of]
  unfold LogS.look
  by_cases h1 : (s.low : Int) ≤ at_
  · rw [if_pos h1]
    by_cases h2 : at_ < s.low + s.cfg.inb
    · rw [if_pos ⟨h1, h2⟩]
    · rw [if_neg (fun g => h2 g.2), h.cmd _ (by have := h.room; omega)]; rfl
  · rw [if_neg (fun g => h1 g.1), if_neg h1]; rfl
set_option maxHeartbeats 2000000 in
theorem logLook {w : World} {lo L : Nat} {b : LogB} {s : LogS} (h : LogAt w lo L b s) (at_ : Int) (hk : at_ ≤ 9223372036854775807) (r : CmdV × Bool) (hr : entry CmdV.zero (s.look at_) = r) :
    Calls Try.prog 26 #[.pointer (some ⟨L, 0, none⟩), .int .i64 at_] w fun e w' => e = .returned (.tuple #[.agg r.1.cells.toArray, .bool r.2]) ∧ Below w.heap.size w w' := by
  have hb1 := bl_alloc (Below.refl _ w) (.cells #[.int .i64 0, .int .i64 0, .int .i64 0, .int .i64 0, .int .i64 0, .int .i64 0, .int .i64 0, .int .i64 0, .int .i64 0, .int .i64 0, .int .i64 0, .slice none 0 0, .int .i64 0, .bool false] 39)
  have hz := alloc_new w (.cells #[.int .i64 0, .int .i64 0, .int .i64 0, .int .i64 0, .int .i64 0, .int .i64 0, .int .i64 0, .int .i64 0, .int .i64 0, .int .i64 0, .int .i64 0, .slice none 0 0, .int .i64 0, .bool false] 39)
  have h1 := h.below hb1
  have c11 : (w.alloc (.cells #[.int .i64 0, .int .i64 0, .int .i64 0, .int .i64 0, .int .i64 0, .int .i64 0, .int .i64 0, .int .i64 0, .int .i64 0, .int .i64 0, .int .i64 0, .slice none 0 0, .int .i64 0, .bool false] 39)).cell? ⟨L, 11, none⟩ = some (.pointer (some ⟨b.R, 0, none⟩)) := lgCell h1 11
  have HC := Lib.hid (cget_at h1.ring at_ hk r (by rw [look_get h.inv, hr]))
  have HB := Lib.hid hb1
  have HZ := Lib.hid hz
  clear h h1 hb1 hz hr
  obtain ⟨⟨kd, nn⟩, th⟩ := r
  go_enter Try.func26, Try.ntmps26
  go_wp2_with fail
  refine HC.out.mono ?_
  rintro e w2 ⟨rfl, hb2⟩
  have hz2 := (hb2.block _ (block_lt HZ.out)).trans HZ.out
  have hb02 := bl_then HB.out hb2
  have HZ2 := Lib.hid hz2
  have HB2 := Lib.hid hb02
  have b0 : w2.cell? ⟨w.heap.size, 0, none⟩ = some (.int .i64 0) := cell_of_blk (cs := [.int .i64 0, .int .i64 0, .int .i64 0, .int .i64 0, .int .i64 0, .int .i64 0, .int .i64 0, .int .i64 0, .int .i64 0, .int .i64 0, .int .i64 0, .slice none 0 0, .int .i64 0, .bool false]) hz2 0
  have g0 : w2.frozen? ⟨w.heap.size, 0, none⟩ = false := free_of_blk (cs := [.int .i64 0, .int .i64 0, .int .i64 0, .int .i64 0, .int .i64 0, .int .i64 0, .int .i64 0, .int .i64 0, .int .i64 0, .int .i64 0, .int .i64 0, .slice none 0 0, .int .i64 0, .bool false]) hz2 0
  have b1 : w2.cell? ⟨w.heap.size, 1, none⟩ = some (.int .i64 0) := cell_of_blk (cs := [.int .i64 0, .int .i64 0, .int .i64 0, .int .i64 0, .int .i64 0, .int .i64 0, .int .i64 0, .int .i64 0, .int .i64 0, .int .i64 0, .int .i64 0, .slice none 0 0, .int .i64 0, .bool false]) hz2 1
  have g1 : w2.frozen? ⟨w.heap.size, 1, none⟩ = false := free_of_blk (cs := [.int .i64 0, .int .i64 0, .int .i64 0, .int .i64 0, .int .i64 0, .int .i64 0, .int .i64 0, .int .i64 0, .int .i64 0, .int .i64 0, .int .i64 0, .slice none 0 0, .int .i64 0, .bool false]) hz2 1
  have b2 : w2.cell? ⟨w.heap.size, 2, none⟩ = some (.int .i64 0) := cell_of_blk (cs := [.int .i64 0, .int .i64 0, .int .i64 0, .int .i64 0, .int .i64 0, .int .i64 0, .int .i64 0, .int .i64 0, .int .i64 0, .int .i64 0, .int .i64 0, .slice none 0 0, .int .i64 0, .bool false]) hz2 2
  have g2 : w2.frozen? ⟨w.heap.size, 2, none⟩ = false := free_of_blk (cs := [.int .i64 0, .int .i64 0, .int .i64 0, .int .i64 0, .int .i64 0, .int .i64 0, .int .i64 0, .int .i64 0, .int .i64 0, .int .i64 0, .int .i64 0, .slice none 0 0, .int .i64 0, .bool false]) hz2 2
  have b3 : w2.cell? ⟨w.heap.size, 3, none⟩ = some (.int .i64 0) := cell_of_blk (cs := [.int .i64 0, .int .i64 0, .int .i64 0, .int .i64 0, .int .i64 0, .int .i64 0, .int .i64 0, .int .i64 0, .int .i64 0, .int .i64 0, .int .i64 0, .slice none 0 0, .int .i64 0, .bool false]) hz2 3
  have g3 : w2.frozen? ⟨w.heap.size, 3, none⟩ = false := free_of_blk (cs := [.int .i64 0, .int .i64 0, .int .i64 0, .int .i64 0, .int .i64 0, .int .i64 0, .int .i64 0, .int .i64 0, .int .i64 0, .int .i64 0, .int .i64 0, .slice none 0 0, .int .i64 0, .bool false]) hz2 3
  have b4 : w2.cell? ⟨w.heap.size, 4, none⟩ = some (.int .i64 0) := cell_of_blk (cs := [.int .i64 0, .int .i64 0, .int .i64 0, .int .i64 0, .int .i64 0, .int .i64 0, .int .i64 0, .int .i64 0, .int .i64 0, .int .i64 0, .int .i64 0, .slice none 0 0, .int .i64 0, .bool false]) hz2 4
  have g4 : w2.frozen? ⟨w.heap.size, 4, none⟩ = false := free_of_blk (cs := [.int .i64 0, .int .i64 0, .int .i64 0, .int .i64 0, .int .i64 0, .int .i64 0, .int .i64 0, .int .i64 0, .int .i64 0, .int .i64 0, .int .i64 0, .slice none 0 0, .int .i64 0, .bool false]) hz2 4
  have b5 : w2.cell? ⟨w.heap.size, 5, none⟩ = some (.int .i64 0) := cell_of_blk (cs := [.int .i64 0, .int .i64 0, .int .i64 0, .int .i64 0, .int .i64 0, .int .i64 0, .int .i64 0, .int .i64 0, .int .i64 0, .int .i64 0, .int .i64 0, .slice none 0 0, .int .i64 0, .bool false]) hz2 5
  have g5 : w2.frozen? ⟨w.heap.size, 5, none⟩ = false := free_of_blk (cs := [.int .i64 0, .int .i64 0, .int .i64 0, .int .i64 0, .int .i64 0, .int .i64 0, .int .i64 0, .int .i64 0, .int .i64 0, .int .i64 0, .int .i64 0, .slice none 0 0, .int .i64 0, .bool false]) hz2 5
  have b6 : w2.cell? ⟨w.heap.size, 6, none⟩ = some (.int .i64 0) := cell_of_blk (cs := [.int .i64 0, .int .i64 0, .int .i64 0, .int .i64 0, .int .i64 0, .int .i64 0, .int .i64 0, .int .i64 0, .int .i64 0, .int .i64 0, .int .i64 0, .slice none 0 0, .int .i64 0, .bool false]) hz2 6
  have g6 : w2.frozen? ⟨w.heap.size, 6, none⟩ = false := free_of_blk (cs := [.int .i64 0, .int .i64 0, .int .i64 0, .int .i64 0, .int .i64 0, .int .i64 0, .int .i64 0, .int .i64 0, .int .i64 0, .int .i64 0, .int .i64 0, .slice none 0 0, .int .i64 0, .bool false]) hz2 6
  have b7 : w2.cell? ⟨w.heap.size, 7, none⟩ = some (.int .i64 0) := cell_of_blk (cs := [.int .i64 0, .int .i64 0, .int .i64 0, .int .i64 0, .int .i64 0, .int .i64 0, .int .i64 0, .int .i64 0, .int .i64 0, .int .i64 0, .int .i64 0, .slice none 0 0, .int .i64 0, .bool false]) hz2 7
  have g7 : w2.frozen? ⟨w.heap.size, 7, none⟩ = false := free_of_blk (cs := [.int .i64 0, .int .i64 0, .int .i64 0, .int .i64 0, .int .i64 0, .int .i64 0, .int .i64 0, .int .i64 0, .int .i64 0, .int .i64 0, .int .i64 0, .slice none 0 0, .int .i64 0, .bool false]) hz2 7
  have b8 : w2.cell? ⟨w.heap.size, 8, none⟩ = some (.int .i64 0) := cell_of_blk (cs := [.int .i64 0, .int .i64 0, .int .i64 0, .int .i64 0, .int .i64 0, .int .i64 0, .int .i64 0, .int .i64 0, .int .i64 0, .int .i64 0, .int .i64 0, .slice none 0 0, .int .i64 0, .bool false]) hz2 8
  have g8 : w2.frozen? ⟨w.heap.size, 8, none⟩ = false := free_of_blk (cs := [.int .i64 0, .int .i64 0, .int .i64 0, .int .i64 0, .int .i64 0, .int .i64 0, .int .i64 0, .int .i64 0, .int .i64 0, .int .i64 0, .int .i64 0, .slice none 0 0, .int .i64 0, .bool false]) hz2 8
  have b9 : w2.cell? ⟨w.heap.size, 9, none⟩ = some (.int .i64 0) := cell_of_blk (cs := [.int .i64 0, .int .i64 0, .int .i64 0, .int .i64 0, .int .i64 0, .int .i64 0, .int .i64 0, .int .i64 0, .int .i64 0, .int .i64 0, .int .i64 0, .slice none 0 0, .int .i64 0, .bool false]) hz2 9
  have g9 : w2.frozen? ⟨w.heap.size, 9, none⟩ = false := free_of_blk (cs := [.int .i64 0, .int .i64 0, .int .i64 0, .int .i64 0, .int .i64 0, .int .i64 0, .int .i64 0, .int .i64 0, .int .i64 0, .int .i64 0, .int .i64 0, .slice none 0 0, .int .i64 0, .bool false]) hz2 9
  have b10 : w2.cell? ⟨w.heap.size, 10, none⟩ = some (.int .i64 0) := cell_of_blk (cs := [.int .i64 0, .int .i64 0, .int .i64 0, .int .i64 0, .int .i64 0, .int .i64 0, .int .i64 0, .int .i64 0, .int .i64 0, .int .i64 0, .int .i64 0, .slice none 0 0, .int .i64 0, .bool false]) hz2 10
  have g10 : w2.frozen? ⟨w.heap.size, 10, none⟩ = false := free_of_blk (cs := [.int .i64 0, .int .i64 0, .int .i64 0, .int .i64 0, .int .i64 0, .int .i64 0, .int .i64 0, .int .i64 0, .int .i64 0, .int .i64 0, .int .i64 0, .slice none 0 0, .int .i64 0, .bool false]) hz2 10
  have b11 : w2.cell? ⟨w.heap.size, 11, none⟩ = some (.slice none 0 0) := cell_of_blk (cs := [.int .i64 0, .int .i64 0, .int .i64 0, .int .i64 0, .int .i64 0, .int .i64 0, .int .i64 0, .int .i64 0, .int .i64 0, .int .i64 0, .int .i64 0, .slice none 0 0, .int .i64 0, .bool false]) hz2 11
  have g11 : w2.frozen? ⟨w.heap.size, 11, none⟩ = false := free_of_blk (cs := [.int .i64 0, .int .i64 0, .int .i64 0, .int .i64 0, .int .i64 0, .int .i64 0, .int .i64 0, .int .i64 0, .int .i64 0, .int .i64 0, .int .i64 0, .slice none 0 0, .int .i64 0, .bool false]) hz2 11
  have b12 : w2.cell? ⟨w.heap.size, 12, none⟩ = some (.int .i64 0) := cell_of_blk (cs := [.int .i64 0, .int .i64 0, .int .i64 0, .int .i64 0, .int .i64 0, .int .i64 0, .int .i64 0, .int .i64 0, .int .i64 0, .int .i64 0, .int .i64 0, .slice none 0 0, .int .i64 0, .bool false]) hz2 12
  have g12 : w2.frozen? ⟨w.heap.size, 12, none⟩ = false := free_of_blk (cs := [.int .i64 0, .int .i64 0, .int .i64 0, .int .i64 0, .int .i64 0, .int .i64 0, .int .i64 0, .int .i64 0, .int .i64 0, .int .i64 0, .int .i64 0, .slice none 0 0, .int .i64 0, .bool false]) hz2 12
  have b13 : w2.cell? ⟨w.heap.size, 13, none⟩ = some (.bool false) := cell_of_blk (cs := [.int .i64 0, .int .i64 0, .int .i64 0, .int .i64 0, .int .i64 0, .int .i64 0, .int .i64 0, .int .i64 0, .int .i64 0, .int .i64 0, .int .i64 0, .slice none 0 0, .int .i64 0, .bool false]) hz2 13
  have g13 : w2.frozen? ⟨w.heap.size, 13, none⟩ = false := free_of_blk (cs := [.int .i64 0, .int .i64 0, .int .i64 0, .int .i64 0, .int .i64 0, .int .i64 0, .int .i64 0, .int .i64 0, .int .i64 0, .int .i64 0, .int .i64 0, .slice none 0 0, .int .i64 0, .bool false]) hz2 13
  clear hb2 hz2 hb02
  simp only [CmdV.cells]
  go_wp2_with fail
  change bodyPost _ _ _ _ _ (claid w2 w.heap.size 0 ⟨kd, nn⟩)
  refine bodyPost_ret (v := .tuple #[.agg (CmdV.cells ⟨kd, nn⟩).toArray, .bool th]) ?_ rfl ⟨rfl, ?_⟩
  · exact cresults (p := 4) (u := 5) rfl _ _ w.heap.size 39 (CmdV.cells ⟨kd, nn⟩).toArray (0, 0) _ rfl (claid_same (cs := (CmdV.cells CmdV.zero)) (w := w2) HZ2.out rfl ⟨kd, nn⟩) Try.underlying39 rfl cinfo
  · exact (claid_new (S := fun _ => False) (Nat.le_refl _) (Only.of_below HB2.out) 0 ⟨kd, nn⟩).below (Nat.le_refl _) (fun _ h => h.elim)
end Go.Proofs.Ytibbnikfecilhaa
