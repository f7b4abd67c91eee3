/- Chapter 12: the epochs in memory: what each method of them tells and changes. -/
import Derived.Test.YtpklpomajioneaaRows
import Derived.Test.YtpklpomajioneaaSl
import Derived.Test.YtpklpomajioneaaRead
import Derived.StillTailTactics
import Derived.BigQuiet
import Derived.Laws.Rows
import Derived.IntWalk
import Derived.Maps.AppendAt
import Derived.Deep.DeepCutAuto
import Derived.Deep.CutBlock
import Derived.Deep.RegionHeld3
import Derived.Deep.RegionLaw
namespace Go.Proofs.Ytpklpomajioneaa
open Go.RowKit
set_option linter.unusedVariables false
set_option linter.unusedSimpArgs false

/-- A function with one value anew. -/
def upd {α : Type} (f : Nat → α) (a : Nat) (v : α) : Nat → α := fun i => if i = a then v else f i
theorem upd_same {α : Type} (f : Nat → α) (a : Nat) (v : α) : upd f a v a = v := if_pos rfl
theorem upd_other {α : Type} (f : Nat → α) {a i : Nat} (v : α) (h : i ≠ a) : upd f a v i = f i := if_neg h

/-- What was retired: slot, gen, epoch. -/
structure OldV where
  slot : Int
  gen : Int
  ep : Int
def OldV.cells (o : OldV) : List Value := [.int .i64 o.slot, .int .i64 o.gen, .int .i64 o.ep]
def oldCells (l : List OldV) : List Value := l.flatMap OldV.cells
theorem oldCells_length (l : List OldV) : (oldCells l).length = l.length * 3 := by
  induction l with
  | nil => rfl
  | cons c cs ih => simp only [oldCells, List.flatMap_cons, List.length_append, OldV.cells, List.length_cons, List.length_nil] at *; omega
theorem oldCells_append (a b : List OldV) : oldCells (a ++ b) = oldCells a ++ oldCells b := by simp [oldCells]
/-- The epochs: now, where each is pinned, what each has in limbo. -/
structure EpS where
  now : Nat
  pin : Nat → Int
  lim : Nat → List OldV
def epCells (n : Nat) (s : EpS) (lv : Nat → Value) : List Value := .int .i64 s.now :: .int .i64 n :: ((List.range 16).map (fun i => Value.int .i64 (s.pin i)) ++ (List.range 16).map lv)
structure EpAt (w : World) (lo b n : Nat) (s : EpS) (lv : Nat → Value) : Prop where
  blk : w.heap[b]? = some (.cells (epCells n s lv).toArray 62 (0, 0))
  lob : lo ≤ b
  n1 : 1 ≤ n
  n16 : n ≤ 16
  row : ∀ i, i < 16 → w.ownsRow lo 64 3 (lv i) (s.lim i).length (oldCells (s.lim i))
  apart : ∀ i j k, i < 16 → j < 16 → i ≠ j → (lv i).ownBlock = some k → (lv j).ownBlock ≠ some k
/-- What the epochs' own blocks are. -/
def EpOwn (b : Nat) (lv : Nat → Value) (k : Nat) : Prop := k = b ∨ ∃ i, i < 16 ∧ (lv i).ownBlock = some k
theorem epCells_now (n : Nat) (s : EpS) (lv : Nat → Value) : (epCells n s lv)[0]? = some (.int .i64 s.now) := rfl
theorem epCells_n (n : Nat) (s : EpS) (lv : Nat → Value) : (epCells n s lv)[1]? = some (.int .i64 n) := rfl
theorem epCells_pin (n : Nat) (s : EpS) (lv : Nat → Value) {i : Nat} (hi : i < 16) : (epCells n s lv)[2 + i]? = some (.int .i64 (s.pin i)) := by
  unfold epCells
  rw [show 2 + i = i + 1 + 1 by omega, List.getElem?_cons_succ, List.getElem?_cons_succ, List.getElem?_append_left (by simp; exact hi)]
  simp [hi]
theorem epCells_lim (n : Nat) (s : EpS) (lv : Nat → Value) {i : Nat} (hi : i < 16) : (epCells n s lv)[18 + i]? = some (lv i) := by
  unfold epCells
  rw [show 18 + i = (16 + i) + 1 + 1 by omega, List.getElem?_cons_succ, List.getElem?_cons_succ, List.getElem?_append_right (by simp)]
  simp [hi]
theorem range_set {α : Type} (f : Nat → α) (m a : Nat) (v : α) : ((List.range m).map f).set a v = (List.range m).map (upd f a v) := by
  apply List.ext_getElem
  · simp
  · intro i h1 h2
    rw [List.getElem_set]
    simp only [List.getElem_map, List.getElem_range, upd]
    split <;> split <;> first | rfl | omega
theorem epCells_set_now (n : Nat) (s : EpS) (lv : Nat → Value) (m : Nat) : (epCells n s lv).set 0 (.int .i64 m) = epCells n { s with now := m } lv := rfl
theorem epCells_set_pin (n : Nat) (s : EpS) (lv : Nat → Value) {a : Nat} (ha : a < 16) (v : Int) : (epCells n s lv).set (2 + a) (.int .i64 v) = epCells n { s with pin := upd s.pin a v } lv := by
  unfold epCells
  rw [show 2 + a = a + 1 + 1 by omega, List.set_cons_succ, List.set_cons_succ, List.set_append_left _ _ (by simp; exact ha), range_set]
  congr 3
  have : (upd (fun i => Value.int .i64 (s.pin i)) a (.int .i64 v)) = (fun i => Value.int .i64 (upd s.pin a v i)) := by
    funext i
    unfold upd
    split <;> rfl
  rw [this]
theorem epCells_set_lim (n : Nat) (s : EpS) (lv : Nat → Value) {a : Nat} (ha : a < 16) (v : Value) : (epCells n s lv).set (18 + a) v = epCells n s (upd lv a v) := by
  unfold epCells
  rw [show 18 + a = (16 + a) + 1 + 1 by omega, List.set_cons_succ, List.set_cons_succ, List.set_append_right _ _ (by simp)]
  congr 3
  rw [show 16 + a - ((List.range 16).map fun i => Value.int .i64 (s.pin i)).length = a by simp, range_set]
theorem own_lt {w : World} {lo : Nat} {e : TypeId} {size : Nat} {v : Value} {n : Nat} {xs : List Value} (h : w.ownsRow lo e size v n xs) {k : Nat} (hk : v.ownBlock = some k) : k < w.heap.size := by
  rcases h.2 with ⟨rfl, _⟩ | ⟨g, cap, cur, rfl, _, hg, _⟩
  · cases hk
  · injection hk with hk; subst hk; exact block_lt hg
theorem own_type {w : World} {lo : Nat} {e : TypeId} {size : Nat} {v : Value} {n : Nat} {xs : List Value} (h : w.ownsRow lo e size v n xs) {k : Nat} (hk : v.ownBlock = some k) {cs : Array Value} {t : TypeId} {fr : Nat × Nat} (hb : w.heap[k]? = some (.cells cs t fr)) : t = e := by
  rcases h.2 with ⟨rfl, _⟩ | ⟨g, cap, cur, rfl, _, hg, _⟩
  · cases hk
  · injection hk with hk
    subst hk
    change w.heap[g]? = _ at hb
    rw [hg] at hb
    injection hb with hb
    injection hb with _ h2 _
    exact h2.symm
theorem EpAt.kept {S : Nat → Prop} {w w' : World} {lo b n : Nat} {s : EpS} {lv : Nat → Value} (h : EpAt w lo b n s lv) (k : Only S w w') (hS : ∀ i, S i → ¬ EpOwn b lv i) : EpAt w' lo b n s lv :=
  ⟨k.block h.blk (fun hs => hS b hs (.inl rfl)), h.lob, h.n1, h.n16, fun i hi => ownsRow_kept (h.row i hi) k (fun j hj hk => hS j hj (.inr ⟨i, hi, hk⟩)), h.apart⟩
theorem EpAt.below0 {w w' : World} {lo b n : Nat} {s : EpS} {lv : Nat → Value} (h : EpAt w lo b n s lv) (hb : Below w.heap.size w w') : EpAt w' lo b n s lv :=
  h.kept (Only.of_below (S := fun _ => False) hb) (fun _ h => h.elim)
theorem EpAt.own_lt {w : World} {lo b n : Nat} {s : EpS} {lv : Nat → Value} (h : EpAt w lo b n s lv) {k : Nat} (hk : EpOwn b lv k) : k < w.heap.size := by
  rcases hk with rfl | ⟨i, hi, hk⟩
  · exact block_lt h.blk
  · exact Proofs.Ytpklpomajioneaa.own_lt (h.row i hi) hk
theorem EpAt.own_lo {w : World} {lo b n : Nat} {s : EpS} {lv : Nat → Value} (h : EpAt w lo b n s lv) {k : Nat} (hk : EpOwn b lv k) : lo ≤ k := by
  rcases hk with rfl | ⟨i, hi, hk⟩
  · exact h.lob
  · exact own_block (h.row i hi) hk
theorem EpAt.drewN {w : World} {lo b n : Nat} {s : EpS} {lv : Nat → Value} (h : EpAt w lo b n s lv) (m : Nat) : EpAt (w.drewN m) lo b n s lv := ⟨h.blk, h.lob, h.n1, h.n16, h.row, h.apart⟩
theorem EpAt.drew {w : World} {lo b n : Nat} {s : EpS} {lv : Nat → Value} (h : EpAt w lo b n s lv) : EpAt w.drew lo b n s lv := ⟨h.blk, h.lob, h.n1, h.n16, h.row, h.apart⟩
theorem EpAt.c0 {w : World} {lo b n : Nat} {s : EpS} {lv : Nat → Value} (h : EpAt w lo b n s lv) : w.cell? ⟨b, 0, none⟩ = some (.int .i64 s.now) := cell_of_blk h.blk 0
theorem EpAt.c1 {w : World} {lo b n : Nat} {s : EpS} {lv : Nat → Value} (h : EpAt w lo b n s lv) : w.cell? ⟨b, 1, none⟩ = some (.int .i64 n) := cell_of_blk h.blk 1
theorem EpAt.cp {w : World} {lo b n : Nat} {s : EpS} {lv : Nat → Value} (h : EpAt w lo b n s lv) {i : Nat} (hi : i < 16) : w.cell? ⟨b, 2 + i, none⟩ = some (.int .i64 (s.pin i)) := (cell_of_blk h.blk _).trans (epCells_pin n s lv hi)
theorem EpAt.cl {w : World} {lo b n : Nat} {s : EpS} {lv : Nat → Value} (h : EpAt w lo b n s lv) {i : Nat} (hi : i < 16) : w.cell? ⟨b, 18 + i, none⟩ = some (lv i) := (cell_of_blk h.blk _).trans (epCells_lim n s lv hi)
theorem EpAt.fr {w : World} {lo b n : Nat} {s : EpS} {lv : Nat → Value} (h : EpAt w lo b n s lv) (i : Nat) : w.frozen? ⟨b, i, none⟩ = false := free_of_blk h.blk i
theorem EpAt.rows_not_b {w : World} {lo b n : Nat} {s : EpS} {lv : Nat → Value} (h : EpAt w lo b n s lv) {i : Nat} (hi : i < 16) : (lv i).ownBlock ≠ some b := fun hk => absurd (own_type (h.row i hi) hk h.blk) (by decide)
theorem EpAt.set_pin {w : World} {lo b n : Nat} {s : EpS} {lv : Nat → Value} (h : EpAt w lo b n s lv) {a : Nat} (ha : a < 16) (v : Int) : EpAt (w.setCell ⟨b, 2 + a, none⟩ (.int .i64 v)) lo b n { s with pin := upd s.pin a v } lv := by
  have ho : Only (fun k => k = b) w (w.setCell ⟨b, 2 + a, none⟩ (.int .i64 v)) := (Only.refl (fun k => k = b) w).setCell _ _ (.inl rfl)
  have hb := setCell_same h.blk (i := 2 + a) (.int .i64 v)
  rw [epCells_set_pin n s lv ha v] at hb
  exact ⟨hb, h.lob, h.n1, h.n16, fun i hi => ownsRow_kept (h.row i hi) ho (by rintro j rfl hk; exact h.rows_not_b hi hk), h.apart⟩
theorem EpAt.set_now {w : World} {lo b n : Nat} {s : EpS} {lv : Nat → Value} (h : EpAt w lo b n s lv) (m : Nat) : EpAt (w.setCell ⟨b, 0, none⟩ (.int .i64 m)) lo b n { s with now := m } lv := by
  have ho : Only (fun k => k = b) w (w.setCell ⟨b, 0, none⟩ (.int .i64 m)) := (Only.refl (fun k => k = b) w).setCell _ _ (.inl rfl)
  have hb := setCell_same h.blk (i := 0) (.int .i64 m)
  rw [epCells_set_now n s lv m] at hb
  exact ⟨hb, h.lob, h.n1, h.n16, fun i hi => ownsRow_kept (h.row i hi) ho (by rintro j rfl hk; exact h.rows_not_b hi hk), h.apart⟩

theorem is_nil (a : Int) (w : World) : Calls Try.prog 29 #[.pointer none, .int .i64 a] w fun e w' => e = .returned (.bool false) ∧ w = w' := by
  go_enter Try.func29, Try.ntmps29
  go_wp2_with fail
  go_ret
  exact ⟨rfl, rfl⟩
theorem is_any {w : World} {lo b n : Nat} {s : EpS} {lv : Nat → Value} (h : EpAt w lo b n s lv) (a : Int) (t : Bool) (ht : decide (0 ≤ a ∧ a < n) = t) :
    Calls Try.prog 29 #[.pointer (some ⟨b, 0, none⟩), .int .i64 a] w fun e w' => e = .returned (.bool t) ∧ w = w' := by
  have c1 := h.c1
  have HT := Lib.hid ht
  clear ht
  by_cases h0 : 0 ≤ a
  · go_enter Try.func29, Try.ntmps29
    go_wp2_with fail
    go_ret
    refine ⟨?_, rfl⟩
    rw [← HT.out]
    simp [h0]
  · go_enter Try.func29, Try.ntmps29
    go_wp2_with fail
    go_ret
    refine ⟨?_, rfl⟩
    rw [← HT.out]
    symm
    exact congrArg (fun t => Ending.returned (Value.bool t)) (decide_eq_false (by omega))
theorem now_nil (w : World) : Calls Try.prog 20 #[.pointer none] w fun e w' => e = .returned (.int .i64 0) ∧ w = w' := by
  go_enter Try.func20, Try.ntmps20
  go_wp2_with fail
  go_ret
  exact ⟨rfl, rfl⟩
theorem now_any {w : World} {lo b n : Nat} {s : EpS} {lv : Nat → Value} (h : EpAt w lo b n s lv) :
    Calls Try.prog 20 #[.pointer (some ⟨b, 0, none⟩)] w fun e w' => e = .returned (.int .i64 s.now) ∧ w = w' := by
  have c0 := h.c0
  go_enter Try.func20, Try.ntmps20
  go_wp2_with fail
  go_ret
  exact ⟨rfl, rfl⟩
theorem decide_in {n a : Nat} (ha : a < n) : decide (0 ≤ (a : Int) ∧ (a : Int) < n) = true := decide_eq_true (by omega)
theorem decide_out {n : Nat} {a : Int} (ha : ¬ (0 ≤ a ∧ a < n)) : decide (0 ≤ a ∧ a < (n : Int)) = false := decide_eq_false ha

-- PRINTED FROM HERE ON BY epochgen.py
set_option maxHeartbeats 1000000 in
theorem pin_nil (a : Int) (w : World) : Calls Try.prog 12 #[.pointer none, .int .i64 a] w fun e w' => e = .returned (.bool false) ∧ Below w.heap.size w w' := by
  go_enter Try.func12, Try.ntmps12
  go_wp2_with fail
  refine (is_nil a _).mono ?_
  rintro e w' ⟨rfl, rfl⟩
  go_wp2_with fail
  go_ret
  exact ⟨rfl, by first | exact Below.refl _ _ | exact bl_alloc (Below.refl _ _) _⟩
set_option maxHeartbeats 1000000 in
theorem pin_bad {w : World} {lo b n : Nat} {s : EpS} {lv : Nat → Value} (h : EpAt w lo b n s lv) (a : Int) (ha : ¬ (0 ≤ a ∧ a < n)) : Calls Try.prog 12 #[.pointer (some ⟨b, 0, none⟩), .int .i64 a] w fun e w' => e = .returned (.bool false) ∧ Below w.heap.size w w' := by
  go_enter Try.func12, Try.ntmps12
  go_wp2_with fail
  refine (is_any h a false (decide_out ha)).mono ?_
  rintro e w' ⟨rfl, rfl⟩
  go_wp2_with fail
  go_ret
  exact ⟨rfl, by first | exact Below.refl _ _ | exact bl_alloc (Below.refl _ _) _⟩
set_option maxHeartbeats 1000000 in
theorem unpin_nil (a : Int) (w : World) : Calls Try.prog 13 #[.pointer none, .int .i64 a] w fun e w' => e = .returned (.bool false) ∧ Below w.heap.size w w' := by
  go_enter Try.func13, Try.ntmps13
  go_wp2_with fail
  refine (is_nil a _).mono ?_
  rintro e w' ⟨rfl, rfl⟩
  go_wp2_with fail
  go_ret
  exact ⟨rfl, by first | exact Below.refl _ _ | exact bl_alloc (Below.refl _ _) _⟩
set_option maxHeartbeats 1000000 in
theorem unpin_bad {w : World} {lo b n : Nat} {s : EpS} {lv : Nat → Value} (h : EpAt w lo b n s lv) (a : Int) (ha : ¬ (0 ≤ a ∧ a < n)) : Calls Try.prog 13 #[.pointer (some ⟨b, 0, none⟩), .int .i64 a] w fun e w' => e = .returned (.bool false) ∧ Below w.heap.size w w' := by
  go_enter Try.func13, Try.ntmps13
  go_wp2_with fail
  refine (is_any h a false (decide_out ha)).mono ?_
  rintro e w' ⟨rfl, rfl⟩
  go_wp2_with fail
  go_ret
  exact ⟨rfl, by first | exact Below.refl _ _ | exact bl_alloc (Below.refl _ _) _⟩
set_option maxHeartbeats 1000000 in
theorem pinned_nil (a : Int) (w : World) : Calls Try.prog 19 #[.pointer none, .int .i64 a] w fun e w' => e = .returned (.tuple #[.int .i64 0, .bool false]) ∧ Below w.heap.size w w' := by
  go_enter Try.func19, Try.ntmps19
  go_wp2_with fail
  refine (is_nil a _).mono ?_
  rintro e w' ⟨rfl, rfl⟩
  go_wp2_with fail
  go_ret2
  exact ⟨rfl, by first | exact Below.refl _ _ | exact bl_alloc (Below.refl _ _) _⟩
set_option maxHeartbeats 1000000 in
theorem pinned_bad {w : World} {lo b n : Nat} {s : EpS} {lv : Nat → Value} (h : EpAt w lo b n s lv) (a : Int) (ha : ¬ (0 ≤ a ∧ a < n)) : Calls Try.prog 19 #[.pointer (some ⟨b, 0, none⟩), .int .i64 a] w fun e w' => e = .returned (.tuple #[.int .i64 0, .bool false]) ∧ Below w.heap.size w w' := by
  go_enter Try.func19, Try.ntmps19
  go_wp2_with fail
  refine (is_any h a false (decide_out ha)).mono ?_
  rintro e w' ⟨rfl, rfl⟩
  go_wp2_with fail
  go_ret2
  exact ⟨rfl, by first | exact Below.refl _ _ | exact bl_alloc (Below.refl _ _) _⟩
set_option maxHeartbeats 1000000 in
theorem limbo_nil (a : Int) (w : World) : Calls Try.prog 18 #[.pointer none, .int .i64 a] w fun e w' => e = .returned (.int .i64 0) ∧ Below w.heap.size w w' := by
  go_enter Try.func18, Try.ntmps18
  go_wp2_with fail
  refine (is_nil a _).mono ?_
  rintro e w' ⟨rfl, rfl⟩
  go_wp2_with fail
  go_ret
  exact ⟨rfl, by first | exact Below.refl _ _ | exact bl_alloc (Below.refl _ _) _⟩
set_option maxHeartbeats 1000000 in
theorem limbo_bad {w : World} {lo b n : Nat} {s : EpS} {lv : Nat → Value} (h : EpAt w lo b n s lv) (a : Int) (ha : ¬ (0 ≤ a ∧ a < n)) : Calls Try.prog 18 #[.pointer (some ⟨b, 0, none⟩), .int .i64 a] w fun e w' => e = .returned (.int .i64 0) ∧ Below w.heap.size w w' := by
  go_enter Try.func18, Try.ntmps18
  go_wp2_with fail
  refine (is_any h a false (decide_out ha)).mono ?_
  rintro e w' ⟨rfl, rfl⟩
  go_wp2_with fail
  go_ret
  exact ⟨rfl, by first | exact Below.refl _ _ | exact bl_alloc (Below.refl _ _) _⟩
set_option maxHeartbeats 1000000 in
theorem retire_nil (a : Int) (sl gn : Int) (w : World) : Calls Try.prog 14 #[.pointer none, .int .i64 a, .agg #[.int .i64 sl, .int .i64 gn]] w fun e w' => e = .returned (.bool false) ∧ Below w.heap.size w w' := by
  go_enter Try.func14, Try.ntmps14
  go_wp2_with fail
  refine (is_nil a _).mono ?_
  rintro e w' ⟨rfl, rfl⟩
  go_wp2_with fail
  go_ret
  exact ⟨rfl, by first | exact Below.refl _ _ | exact bl_alloc (Below.refl _ _) _⟩
set_option maxHeartbeats 1000000 in
theorem retire_bad {w : World} {lo b n : Nat} {s : EpS} {lv : Nat → Value} (h : EpAt w lo b n s lv) (a : Int) (sl gn : Int) (ha : ¬ (0 ≤ a ∧ a < n)) : Calls Try.prog 14 #[.pointer (some ⟨b, 0, none⟩), .int .i64 a, .agg #[.int .i64 sl, .int .i64 gn]] w fun e w' => e = .returned (.bool false) ∧ Below w.heap.size w w' := by
  go_enter Try.func14, Try.ntmps14
  go_wp2_with fail
  refine (is_any (h.below0 (by first | exact Below.refl _ _ | exact bl_alloc (Below.refl _ _) _)) a false (decide_out ha)).mono ?_
  rintro e w' ⟨rfl, rfl⟩
  go_wp2_with fail
  go_ret
  exact ⟨rfl, by first | exact Below.refl _ _ | exact bl_alloc (Below.refl _ _) _⟩
set_option maxHeartbeats 1000000 in
theorem ripe_nil (a : Int) (w : World) : Calls Try.prog 15 #[.pointer none, .int .i64 a] w fun e w' => e = .returned (.slice none 0 0) ∧ Below w.heap.size w w' := by
  go_enter Try.func15, Try.ntmps15
  go_wp2_with fail
  refine (is_nil a _).mono ?_
  rintro e w' ⟨rfl, rfl⟩
  go_wp2_with fail
  go_ret
  exact ⟨rfl, by first | exact Below.refl _ _ | exact bl_alloc (Below.refl _ _) _⟩
set_option maxHeartbeats 1000000 in
theorem ripe_bad {w : World} {lo b n : Nat} {s : EpS} {lv : Nat → Value} (h : EpAt w lo b n s lv) (a : Int) (ha : ¬ (0 ≤ a ∧ a < n)) : Calls Try.prog 15 #[.pointer (some ⟨b, 0, none⟩), .int .i64 a] w fun e w' => e = .returned (.slice none 0 0) ∧ Below w.heap.size w w' := by
  go_enter Try.func15, Try.ntmps15
  go_wp2_with fail
  refine (is_any (h.below0 (by first | exact Below.refl _ _ | exact bl_alloc (Below.refl _ _) _)) a false (decide_out ha)).mono ?_
  rintro e w' ⟨rfl, rfl⟩
  go_wp2_with fail
  go_ret
  exact ⟨rfl, by first | exact Below.refl _ _ | exact bl_alloc (Below.refl _ _) _⟩
set_option maxHeartbeats 1000000 in
theorem pin_yes {w : World} {lo b n : Nat} {s : EpS} {lv : Nat → Value} (h : EpAt w lo b n s lv) {a : Nat} (ha : a < n) (hp : s.pin a = -1) : Calls Try.prog 12 #[.pointer (some ⟨b, 0, none⟩), .int .i64 a] w fun e w' => e = .returned (.bool true) ∧ EpAt w' lo b n { s with pin := upd s.pin a s.now } lv ∧ Only (fun k => k = b) w w' := by
  have n16 := h.n16
  have ia : (a : Int) < 16 := by omega
  have c0 := h.c0
  have cp := h.cp (i := a) (by omega)
  have cl := h.cl (i := a) (by omega)
  have fr := h.fr (2 + a)
  rw [hp] at cp
  have H := Lib.hid h
  clear h
  go_enter Try.func12, Try.ntmps12
  go_wp2_with fail
  refine (is_any H.out a true (decide_in ha)).mono ?_
  rintro e w' ⟨rfl, rfl⟩
  go_wp2_with fail
  go_still_tail 9, (by kernel_rfl)
  change wpList _ _ _ _ _ w.drew
  have cp2 : w.drew.cell? ⟨b, 2 + a, none⟩ = some (.int .i64 (-1)) := cp
  have fr2 : w.drew.frozen? ⟨b, 2 + a, none⟩ = false := fr
  have H2 := Lib.hid H.out.drew
  have ho := (Only.refl (fun k => k = b) w).drew
  generalize w.drew = w2 at *
  go_wp2
  go_ret
  exact ⟨rfl, H2.out.set_pin (by omega) _, ho.setCell _ _ (.inl rfl)⟩
set_option maxHeartbeats 1000000 in
theorem pin_no {w : World} {lo b n : Nat} {s : EpS} {lv : Nat → Value} (h : EpAt w lo b n s lv) {a : Nat} (ha : a < n) (hp : s.pin a ≠ -1) : Calls Try.prog 12 #[.pointer (some ⟨b, 0, none⟩), .int .i64 a] w fun e w' => e = .returned (.bool false) ∧ w = w' := by
  have n16 := h.n16
  have ia : (a : Int) < 16 := by omega
  have c0 := h.c0
  have cp := h.cp (i := a) (by omega)
  have cl := h.cl (i := a) (by omega)
  have fr := h.fr (2 + a)
  have d1 : (s.pin a == -1) = false := by simpa using hp
  have d2 : (s.pin a != -1) = true := by simpa using hp
  have H := Lib.hid h
  clear h
  go_enter Try.func12, Try.ntmps12
  go_wp2_with fail
  refine (is_any H.out a true (decide_in ha)).mono ?_
  rintro e w' ⟨rfl, rfl⟩
  go_wp2_with fail

  go_ret
  exact ⟨rfl, rfl⟩
set_option maxHeartbeats 1000000 in
theorem unpin_yes {w : World} {lo b n : Nat} {s : EpS} {lv : Nat → Value} (h : EpAt w lo b n s lv) {a : Nat} (ha : a < n) (hp : s.pin a ≠ -1) : Calls Try.prog 13 #[.pointer (some ⟨b, 0, none⟩), .int .i64 a] w fun e w' => e = .returned (.bool true) ∧ EpAt w' lo b n { s with pin := upd s.pin a (-1) } lv ∧ Only (fun k => k = b) w w' := by
  have n16 := h.n16
  have ia : (a : Int) < 16 := by omega
  have c0 := h.c0
  have cp := h.cp (i := a) (by omega)
  have cl := h.cl (i := a) (by omega)
  have fr := h.fr (2 + a)
  have d1 : (s.pin a == -1) = false := by simpa using hp
  have d2 : (s.pin a != -1) = true := by simpa using hp
  have H := Lib.hid h
  clear h
  go_enter Try.func13, Try.ntmps13
  go_wp2_with fail
  refine (is_any H.out a true (decide_in ha)).mono ?_
  rintro e w' ⟨rfl, rfl⟩
  go_wp2_with fail

  go_ret
  exact ⟨rfl, H.out.set_pin (by omega) _, (Only.refl (fun k => k = b) w).setCell _ _ (.inl rfl)⟩
set_option maxHeartbeats 1000000 in
theorem unpin_no {w : World} {lo b n : Nat} {s : EpS} {lv : Nat → Value} (h : EpAt w lo b n s lv) {a : Nat} (ha : a < n) (hp : s.pin a = -1) : Calls Try.prog 13 #[.pointer (some ⟨b, 0, none⟩), .int .i64 a] w fun e w' => e = .returned (.bool false) ∧ w = w' := by
  have n16 := h.n16
  have ia : (a : Int) < 16 := by omega
  have c0 := h.c0
  have cp := h.cp (i := a) (by omega)
  have cl := h.cl (i := a) (by omega)
  have fr := h.fr (2 + a)
  rw [hp] at cp
  have H := Lib.hid h
  clear h
  go_enter Try.func13, Try.ntmps13
  go_wp2_with fail
  refine (is_any H.out a true (decide_in ha)).mono ?_
  rintro e w' ⟨rfl, rfl⟩
  go_wp2_with fail

  go_ret
  exact ⟨rfl, rfl⟩
set_option maxHeartbeats 1000000 in
theorem pinned_yes {w : World} {lo b n : Nat} {s : EpS} {lv : Nat → Value} (h : EpAt w lo b n s lv) {a : Nat} (ha : a < n) (hp : s.pin a ≠ -1) : Calls Try.prog 19 #[.pointer (some ⟨b, 0, none⟩), .int .i64 a] w fun e w' => e = .returned (.tuple #[.int .i64 (s.pin a), .bool true]) ∧ w = w' := by
  have n16 := h.n16
  have ia : (a : Int) < 16 := by omega
  have c0 := h.c0
  have cp := h.cp (i := a) (by omega)
  have cl := h.cl (i := a) (by omega)
  have fr := h.fr (2 + a)
  have d1 : (s.pin a == -1) = false := by simpa using hp
  have d2 : (s.pin a != -1) = true := by simpa using hp
  have H := Lib.hid h
  clear h
  go_enter Try.func19, Try.ntmps19
  go_wp2_with fail
  refine (is_any H.out a true (decide_in ha)).mono ?_
  rintro e w' ⟨rfl, rfl⟩
  go_wp2_with fail

  go_ret2
  exact ⟨rfl, rfl⟩
set_option maxHeartbeats 1000000 in
theorem pinned_no {w : World} {lo b n : Nat} {s : EpS} {lv : Nat → Value} (h : EpAt w lo b n s lv) {a : Nat} (ha : a < n) (hp : s.pin a = -1) : Calls Try.prog 19 #[.pointer (some ⟨b, 0, none⟩), .int .i64 a] w fun e w' => e = .returned (.tuple #[.int .i64 0, .bool false]) ∧ w = w' := by
  have n16 := h.n16
  have ia : (a : Int) < 16 := by omega
  have c0 := h.c0
  have cp := h.cp (i := a) (by omega)
  have cl := h.cl (i := a) (by omega)
  have fr := h.fr (2 + a)
  rw [hp] at cp
  have H := Lib.hid h
  clear h
  go_enter Try.func19, Try.ntmps19
  go_wp2_with fail
  refine (is_any H.out a true (decide_in ha)).mono ?_
  rintro e w' ⟨rfl, rfl⟩
  go_wp2_with fail

  go_ret2
  exact ⟨rfl, rfl⟩
set_option maxHeartbeats 1000000 in
theorem limbo_any {w : World} {lo b n : Nat} {s : EpS} {lv : Nat → Value} (h : EpAt w lo b n s lv) {a : Nat} (ha : a < n) : Calls Try.prog 18 #[.pointer (some ⟨b, 0, none⟩), .int .i64 a] w fun e w' => e = .returned (.int .i64 (s.lim a).length) ∧ w = w' := by
  have n16 := h.n16
  have ia : (a : Int) < 16 := by omega
  have c0 := h.c0
  have cp := h.cp (i := a) (by omega)
  have cl := h.cl (i := a) (by omega)
  have fr := h.fr (2 + a)
  obtain ⟨A, c, hA⟩ := own_form (h.row a (by omega))
  rw [hA] at cl
  have H := Lib.hid h
  clear h
  go_enter Try.func18, Try.ntmps18
  go_wp2_with fail
  refine (is_any H.out a true (decide_in ha)).mono ?_
  rintro e w' ⟨rfl, rfl⟩
  go_wp2_with fail

  go_ret
  exact ⟨rfl, rfl⟩
end Go.Proofs.Ytpklpomajioneaa
