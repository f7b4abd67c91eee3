/- The ring of texts (sibyl/ring) in memory: what each method of it tells and changes. -/
import Derived.Test.YthjcomekfiibnaaProg
import Derived.Test.YthjcomekfiibnaaRing
import Derived.Deep.QuietTactic
import Derived.BigQuiet
import Derived.Deep.OwnRows
namespace Go.Proofs.Ythjcomekfiibnaa.RS
open Go.RowKit
set_option linter.unusedVariables false

theorem at_nil (k : Int) (w : World) :
    Calls Try.prog 26 #[.pointer none, .int .i64 k] w fun e w' => e = .returned (.pointer none) ∧ ∃ n, w' = w.drewN n := by
  go_enter Try.func26, Try.ntmps26
  go_wp2_with fail
  go_quiet (fail)
  go_wp2
  go_ret
  exact ⟨rfl, _, rfl⟩

set_option maxHeartbeats 1000000 in
theorem at_yes (R B n : Nat) (low k : Int) (w : World) (hc0 : w.cell? ⟨R, 0, none⟩ = some (.slice (some ⟨B, 0, none⟩) n n)) (hc1 : w.cell? ⟨R, 1, none⟩ = some (.int .i64 low))
   (hn : 1 ≤ (n : Int)) (hn2 : (n : Int) ≤ 4096) (hl : 0 ≤ low) (h1 : low ≤ k) (h2 : k - low < n) (h3 : k ≤ 9223372036854775807) :
    Calls Try.prog 26 #[.pointer (some ⟨R, 0, none⟩), .int .i64 k] w fun e w' => e = .returned (.pointer (some ⟨B, (k % n).toNat * 2, none⟩)) ∧ ∃ n, w' = w.drewN n := by
  have d1 : decide (k < low) = false := by simp; omega
  have d2 : decide ((n : Int) ≤ k - low) = false := by simp; omega
  have hz : ((n : Int) == 0) = false := by simp; omega
  have m1 : 0 ≤ k % (n : Int) := Int.emod_nonneg _ (by omega)
  have m2 : k % (n : Int) < n := Int.emod_lt_of_pos _ (by omega)
  go_enter Try.func26, Try.ntmps26
  go_wp2_with fail
  go_quiet (fail)
  go_wp2_with fail
  go_quiet (fail)
  go_wp2
  go_ret
  exact ⟨by simp, _, World.drewN_drewN ..⟩

set_option maxHeartbeats 1000000 in
theorem at_low (R B n : Nat) (low k : Int) (w : World) (hc0 : w.cell? ⟨R, 0, none⟩ = some (.slice (some ⟨B, 0, none⟩) n n)) (hc1 : w.cell? ⟨R, 1, none⟩ = some (.int .i64 low))
   (h1 : k < low) :
    Calls Try.prog 26 #[.pointer (some ⟨R, 0, none⟩), .int .i64 k] w fun e w' => e = .returned (.pointer none) ∧ ∃ n, w' = w.drewN n := by
  have d1 : decide (k < low) = true := by simp; omega
  go_enter Try.func26, Try.ntmps26
  go_wp2_with fail
  go_quiet (fail)
  go_wp2
  go_ret
  exact ⟨rfl, _, rfl⟩

set_option maxHeartbeats 1000000 in
theorem at_high (R B n : Nat) (low k : Int) (w : World) (hc0 : w.cell? ⟨R, 0, none⟩ = some (.slice (some ⟨B, 0, none⟩) n n)) (hc1 : w.cell? ⟨R, 1, none⟩ = some (.int .i64 low))
   (hn2 : (n : Int) ≤ 4096) (hl : 0 ≤ low) (h1 : low ≤ k) (h2 : n ≤ k - low) (h3 : k ≤ 9223372036854775807) :
    Calls Try.prog 26 #[.pointer (some ⟨R, 0, none⟩), .int .i64 k] w fun e w' => e = .returned (.pointer none) ∧ ∃ n, w' = w.drewN n := by
  have d1 : decide (k < low) = false := by simp; omega
  have d2 : decide ((n : Int) ≤ k - low) = true := by simp; omega
  go_enter Try.func26, Try.ntmps26
  go_wp2_with fail
  go_quiet (fail)
  go_wp2
  go_ret
  exact ⟨rfl, _, rfl⟩

/-- The cells of places. -/
def placeCells (ps : List (ByteArray × Bool)) : List Value := ps.flatMap fun p => [.string p.1, .bool p.2]
theorem placeCells_length (ps : List (ByteArray × Bool)) : (placeCells ps).length = 2 * ps.length := by
  induction ps with
  | nil => rfl
  | cons p ps ih => simp only [placeCells, List.flatMap_cons, List.length_append, List.length_cons, List.length_nil] at *; omega
theorem placeCells_x (ps : List (ByteArray × Bool)) : ∀ i, i < ps.length → (placeCells ps)[i * 2]? = some (.string (ps.getD i (⟨#[]⟩, false)).1) := by
  induction ps with
  | nil => intro i hi; simp at hi
  | cons p ps ih =>
    intro i hi
    cases i with
    | zero => rfl
    | succ i =>
      have := ih i (by simpa using hi)
      rw [show (i + 1) * 2 = i * 2 + 1 + 1 by omega]
      simpa [placeCells] using this
theorem placeCells_t (ps : List (ByteArray × Bool)) : ∀ i, i < ps.length → (placeCells ps)[i * 2 + 1]? = some (.bool (ps.getD i (⟨#[]⟩, false)).2) := by
  induction ps with
  | nil => intro i hi; simp at hi
  | cons p ps ih =>
    intro i hi
    cases i with
    | zero => rfl
    | succ i =>
      have := ih i (by simpa using hi)
      rw [show (i + 1) * 2 + 1 = i * 2 + 1 + 1 + 1 by omega]
      simpa [placeCells] using this
theorem placeCells_set (ps : List (ByteArray × Bool)) (x : ByteArray) (b : Bool) : ∀ i, placeCells (ps.set i (x, b)) = ((placeCells ps).set (i * 2) (.string x)).set (i * 2 + 1) (.bool b) := by
  induction ps with
  | nil => intro i; simp [placeCells]
  | cons p ps ih =>
    intro i
    cases i with
    | zero => rfl
    | succ i =>
      have := ih i
      rw [show (i + 1) * 2 = i * 2 + 1 + 1 by omega]
      simp only [placeCells, List.set_cons_succ, List.flatMap_cons, List.cons_append, List.nil_append] at *
      rw [this]

/-- A ring in memory: its struct at block R, its places at block B. -/
structure RingAt (w : World) (R B n : Nat) (low : Int) (ps : List (ByteArray × Bool)) : Prop where
  hR : w.heap[R]? = some (.cells #[.slice (some ⟨B, 0, none⟩) n n, .int .i64 low] 64 (0, 0))
  hB : w.heap[B]? = some (.cells (placeCells ps).toArray 68 (0, 0))
  ne : R ≠ B
  len : ps.length = n
  n1 : 1 ≤ n
  n2 : n ≤ 4096
  low0 : 0 ≤ low
  low1 : low ≤ 4611686018427387904

theorem RingAt.c0 {w : World} {R B n : Nat} {low : Int} {ps : List (ByteArray × Bool)} (h : RingAt w R B n low ps) : w.cell? ⟨R, 0, none⟩ = some (.slice (some ⟨B, 0, none⟩) n n) := by
  simp [World.cell?, h.hR]
theorem RingAt.c1 {w : World} {R B n : Nat} {low : Int} {ps : List (ByteArray × Bool)} (h : RingAt w R B n low ps) : w.cell? ⟨R, 1, none⟩ = some (.int .i64 low) := by
  simp [World.cell?, h.hR]
theorem RingAt.px {w : World} {R B n : Nat} {low : Int} {ps : List (ByteArray × Bool)} (h : RingAt w R B n low ps) (i : Nat) (hi : i < n) : w.cell? ⟨B, i * 2, none⟩ = some (.string (ps.getD i (⟨#[]⟩, false)).1) := by
  have := placeCells_x ps i (by rw [h.len]; exact hi)
  simpa [World.cell?, h.hB] using this
theorem RingAt.pt {w : World} {R B n : Nat} {low : Int} {ps : List (ByteArray × Bool)} (h : RingAt w R B n low ps) (i : Nat) (hi : i < n) : w.cell? ⟨B, i * 2 + 1, none⟩ = some (.bool (ps.getD i (⟨#[]⟩, false)).2) := by
  have := placeCells_t ps i (by rw [h.len]; exact hi)
  simpa [World.cell?, h.hB] using this
theorem RingAt.fR {w : World} {R B n : Nat} {low : Int} {ps : List (ByteArray × Bool)} (h : RingAt w R B n low ps) (i : Nat) : w.frozen? ⟨R, i, none⟩ = false := by
  simp [World.frozen?, h.hR]
theorem RingAt.fB {w : World} {R B n : Nat} {low : Int} {ps : List (ByteArray × Bool)} (h : RingAt w R B n low ps) (i : Nat) : w.frozen? ⟨B, i, none⟩ = false := by
  simp [World.frozen?, h.hB]

/-- Where a number's place lies. -/
def ringPtr (B n : Nat) (low k : Int) : Option Addr := if low ≤ k ∧ k - low < n then some ⟨B, (k % n).toNat * 2, none⟩ else none
theorem ringPtr_yes {B n : Nat} {low k : Int} (h : low ≤ k ∧ k - low < n) : ringPtr B n low k = some ⟨B, (k % n).toNat * 2, none⟩ := if_pos h
theorem ringPtr_no {B n : Nat} {low k : Int} (h : ¬ (low ≤ k ∧ k - low < n)) : ringPtr B n low k = none := if_neg h

theorem at_any {w : World} {R B n : Nat} {low : Int} {ps : List (ByteArray × Bool)} (h : RingAt w R B n low ps) (k : Int) (hk : k ≤ 9223372036854775807) :
    Calls Try.prog 26 #[.pointer (some ⟨R, 0, none⟩), .int .i64 k] w fun e w' => e = .returned (.pointer (ringPtr B n low k)) ∧ ∃ n, w' = w.drewN n := by
  have l0 := h.low0
  have n1 := h.n1
  have n2 := h.n2
  by_cases h1 : low ≤ k
  · by_cases h2 : k - low < n
    · rw [ringPtr_yes ⟨h1, h2⟩]
      exact at_yes R B n low k w h.c0 h.c1 (by omega) (by omega) h.low0 h1 h2 hk
    · rw [ringPtr_no (fun g => h2 g.2)]
      exact at_high R B n low k w h.c0 h.c1 (by omega) h.low0 h1 (by omega) hk
  · rw [ringPtr_no (fun g => h1 g.1)]
    exact at_low R B n low k w h.c0 h.c1 (by omega)

theorem low_any {w : World} {R B n : Nat} {low : Int} {ps : List (ByteArray × Bool)} (h : RingAt w R B n low ps) :
    Calls Try.prog 28 #[.pointer (some ⟨R, 0, none⟩)] w fun e w' => e = .returned (.int .i64 low) ∧ ∃ n, w' = w.drewN n := by
  have c1 := h.c1
  go_enter Try.func28, Try.ntmps28
  go_wp2
  go_ret
  exact ⟨rfl, 0, rfl⟩
theorem low_nil (w : World) :
    Calls Try.prog 28 #[.pointer none] w fun e w' => e = .returned (.int .i64 0) ∧ ∃ n, w' = w.drewN n := by
  go_enter Try.func28, Try.ntmps28
  go_wp2
  go_ret
  exact ⟨rfl, 0, rfl⟩

/-- What is at a place. -/
def ringGet (ps : List (ByteArray × Bool)) (low k : Int) : ByteArray × Bool := if low ≤ k ∧ k - low < ps.length then ps.getD (k % ps.length).toNat (⟨#[]⟩, false) else (⟨#[]⟩, false)

theorem get_any {w : World} {R B n : Nat} {low : Int} {ps : List (ByteArray × Bool)} (h : RingAt w R B n low ps) (k : Int) (hk : k ≤ 9223372036854775807) :
    Calls Try.prog 27 #[.pointer (some ⟨R, 0, none⟩), .int .i64 k] w fun e w' => e = .returned (.tuple #[.string (ringGet ps low k).1, .bool (ringGet ps low k).2]) ∧ ∃ n, w' = w.drewN n := by
  have n1 := h.n1
  have hat := at_any h k hk
  unfold ringGet
  rw [h.len]
  by_cases g : low ≤ k ∧ k - low < n
  · rw [if_pos g]
    rw [ringPtr_yes g] at hat
    have m1 : 0 ≤ k % (n : Int) := Int.emod_nonneg _ (by omega)
    have m2 : k % (n : Int) < n := Int.emod_lt_of_pos _ (by omega)
    have cx := h.px (k % n).toNat (by omega)
    have ct := h.pt (k % n).toNat (by omega)
    generalize (k % (n : Int)).toNat = i at *
    clear m1 m2
    have H := Lib.hid hat
    clear hat
    go_enter Try.func27, Try.ntmps27
    go_wp2_with (go_at_call 26; refine H.out.mono ?_; rintro e w' ⟨rfl, j, rfl⟩)
    go_quiet (fail)
    go_wp2
    go_ret2
    exact ⟨rfl, drews _ _ _⟩
  · rw [if_neg g]
    rw [ringPtr_no g] at hat
    have H := Lib.hid hat
    clear hat
    go_enter Try.func27, Try.ntmps27
    go_wp2_with (go_at_call 26; refine H.out.mono ?_; rintro e w' ⟨rfl, j, rfl⟩)
    go_ret2
    exact ⟨rfl, _, rfl⟩


/-- What a put leaves, and tells. -/
def ringOk (ps : List (ByteArray × Bool)) (low k : Int) : Bool := decide (low ≤ k) && decide (k - low < ps.length) && !(ps.getD (k % ps.length).toNat (⟨#[]⟩, false)).2
def ringPut (ps : List (ByteArray × Bool)) (k : Int) (x : ByteArray) : List (ByteArray × Bool) := ps.set (k % ps.length).toNat (x, true)

theorem RingAt.drewN {w : World} {R B n : Nat} {low : Int} {ps : List (ByteArray × Bool)} (h : RingAt w R B n low ps) (j : Nat) : RingAt (w.drewN j) R B n low ps := ⟨h.hR, h.hB, h.ne, h.len, h.n1, h.n2, h.low0, h.low1⟩
theorem RingAt.kept {w w' : World} {R B n : Nat} {low : Int} {ps : List (ByteArray × Bool)} (h : RingAt w R B n low ps) {S : Nat → Prop} (k : Only S w w') (hR : ¬ S R) (hB : ¬ S B) : RingAt w' R B n low ps :=
  ⟨k.block h.hR hR, k.block h.hB hB, h.ne, h.len, h.n1, h.n2, h.low0, h.low1⟩
theorem RingAt.stored {w : World} {R B n : Nat} {low : Int} {ps : List (ByteArray × Bool)} (h : RingAt w R B n low ps) (i : Nat) (x : ByteArray) (b : Bool) :
    RingAt ((w.setCell ⟨B, i * 2, none⟩ (.string x)).setCell ⟨B, i * 2 + 1, none⟩ (.bool b)) R B n low (ps.set i (x, b)) :=
  ⟨setCell_other (setCell_other h.hR h.ne _) h.ne _, by rw [placeCells_set]; exact setCell_same (setCell_same h.hB _) _, h.ne, by simpa using h.len, h.n1, h.n2, h.low0, h.low1⟩
theorem RingAt.lowered {w : World} {R B n : Nat} {low : Int} {ps : List (ByteArray × Bool)} (h : RingAt w R B n low ps) (l : Int) (h0 : 0 ≤ l) (h1 : l ≤ 4611686018427387904) :
    RingAt (w.setCell ⟨R, 1, none⟩ (.int .i64 l)) R B n l ps :=
  ⟨by have := setCell_same (i := 1) (cs := [.slice (some ⟨B, 0, none⟩) n n, .int .i64 low]) h.hR (.int .i64 l); simpa using this, setCell_other h.hB (Ne.symm h.ne) _, h.ne, h.len, h.n1, h.n2, h0, h1⟩

theorem put_yes {w : World} {R B n : Nat} {low : Int} {ps : List (ByteArray × Bool)} (h : RingAt w R B n low ps) (x : ByteArray) (k : Int) (hk : k ≤ 9223372036854775807) (g : low ≤ k ∧ k - low < n) (ht : (ps.getD (k % n).toNat (⟨#[]⟩, false)).2 = false) :
    Calls Try.prog 21 #[.pointer (some ⟨R, 0, none⟩), .int .i64 k, .string x] w fun e w' => e = .returned (.bool true) ∧
      ∃ j, w' = ((w.drewN j).setCell ⟨B, (k % n).toNat * 2, none⟩ (.string x)).setCell ⟨B, (k % n).toNat * 2 + 1, none⟩ (.bool true) := by
  have n1 := h.n1
  have hat := at_any h k hk
  rw [ringPtr_yes g] at hat
  have m1 : 0 ≤ k % (n : Int) := Int.emod_nonneg _ (by omega)
  have m2 : k % (n : Int) < n := Int.emod_lt_of_pos _ (by omega)
  have cx := h.px (k % n).toNat (by omega)
  have ct := h.pt (k % n).toNat (by omega)
  rw [ht] at ct
  have f1 := h.fB ((k % n).toNat * 2)
  have f2 := h.fB ((k % n).toNat * 2 + 1)
  generalize (k % (n : Int)).toNat = i at *
  clear m1 m2 ht
  have H := Lib.hid hat
  clear hat
  go_enter Try.func21, Try.ntmps21
  go_wp2_with (go_at_call 26; refine H.out.mono ?_; rintro e w' ⟨rfl, j, rfl⟩)
  go_ret
  exact ⟨rfl, _, rfl⟩
theorem put_there {w : World} {R B n : Nat} {low : Int} {ps : List (ByteArray × Bool)} (h : RingAt w R B n low ps) (x : ByteArray) (k : Int) (hk : k ≤ 9223372036854775807) (g : low ≤ k ∧ k - low < n) (ht : (ps.getD (k % n).toNat (⟨#[]⟩, false)).2 = true) :
    Calls Try.prog 21 #[.pointer (some ⟨R, 0, none⟩), .int .i64 k, .string x] w fun e w' => e = .returned (.bool false) ∧ ∃ j, w' = w.drewN j := by
  have n1 := h.n1
  have hat := at_any h k hk
  rw [ringPtr_yes g] at hat
  have m1 : 0 ≤ k % (n : Int) := Int.emod_nonneg _ (by omega)
  have m2 : k % (n : Int) < n := Int.emod_lt_of_pos _ (by omega)
  have ct := h.pt (k % n).toNat (by omega)
  rw [ht] at ct
  generalize (k % (n : Int)).toNat = i at *
  clear m1 m2 ht
  have H := Lib.hid hat
  clear hat
  go_enter Try.func21, Try.ntmps21
  go_wp2_with (go_at_call 26; refine H.out.mono ?_; rintro e w' ⟨rfl, j, rfl⟩)
  go_ret
  exact ⟨rfl, _, rfl⟩
theorem put_none {w : World} (p : Option Addr) (x : ByteArray) (k : Int) (hat : Calls Try.prog 26 #[.pointer p, .int .i64 k] w fun e w' => e = .returned (.pointer none) ∧ ∃ n, w' = w.drewN n) :
    Calls Try.prog 21 #[.pointer p, .int .i64 k, .string x] w fun e w' => e = .returned (.bool false) ∧ ∃ j, w' = w.drewN j := by
  have H := Lib.hid hat
  clear hat
  go_enter Try.func21, Try.ntmps21
  go_wp2_with (go_at_call 26; refine H.out.mono ?_; rintro e w' ⟨rfl, j, rfl⟩)
  go_ret
  exact ⟨rfl, _, rfl⟩
theorem put_any {w : World} {R B n : Nat} {low : Int} {ps : List (ByteArray × Bool)} (h : RingAt w R B n low ps) (x : ByteArray) (k : Int) (hk : k ≤ 9223372036854775807) :
    Calls Try.prog 21 #[.pointer (some ⟨R, 0, none⟩), .int .i64 k, .string x] w fun e w' => e = .returned (.bool (ringOk ps low k)) ∧
      RingAt w' R B n low (if ringOk ps low k = true then ringPut ps k x else ps) ∧ Only (fun b => b = R ∨ b = B) w w' ∧ w'.heap.size = w.heap.size := by
  by_cases g : low ≤ k ∧ k - low < n
  · cases ht : (ps.getD (k % n).toNat (⟨#[]⟩, false)).2
    · have e : ringOk ps low k = true := by
        unfold ringOk
        rw [h.len, ht]
        simp [g.1, g.2]
      rw [e, if_pos rfl]
      refine (put_yes h x k hk g ht).mono ?_
      rintro e w' ⟨rfl, j, rfl⟩
      refine ⟨rfl, ?_, ?_, ?_⟩
      · unfold ringPut
        rw [h.len]
        exact (h.drewN j).stored _ x true
      · exact (((Only.refl _ w).drewN j).setCell _ _ (.inl (.inr rfl))).setCell _ _ (.inl (.inr rfl))
      · simp [World.setCell]
    · have e : ringOk ps low k = false := by
        unfold ringOk
        rw [h.len, ht]
        simp
      rw [e]
      refine (put_there h x k hk g ht).mono ?_
      rintro e w' ⟨rfl, j, rfl⟩
      exact ⟨rfl, h.drewN j, (Only.refl _ w).drewN j, rfl⟩
  · have e : ringOk ps low k = false := by
      unfold ringOk
      rw [h.len]
      simp only [Bool.and_eq_false_iff, decide_eq_false_iff_not]
      left
      omega
    rw [e]
    have hat := at_any h k hk
    rw [ringPtr_no g] at hat
    refine (put_none _ x k hat).mono ?_
    rintro e w' ⟨rfl, j, rfl⟩
    exact ⟨rfl, h.drewN j, (Only.refl _ w).drewN j, rfl⟩

theorem put_to {w : World} {R B n : Nat} {low : Int} {ps : List (ByteArray × Bool)} (h : RingAt w R B n low ps) (x : ByteArray) (k : Int) (hk : k ≤ 9223372036854775807) (b : Bool) (hb : ringOk ps low k = b) (ps' : List (ByteArray × Bool)) (hp : (if b = true then ringPut ps k x else ps) = ps') :
    Calls Try.prog 21 #[.pointer (some ⟨R, 0, none⟩), .int .i64 k, .string x] w fun e w' => e = .returned (.bool b) ∧
      RingAt w' R B n low ps' ∧ Only (fun b => b = R ∨ b = B) w w' ∧ w'.heap.size = w.heap.size := by
  have := put_any h x k hk
  rwa [hb, hp] at this
/-- What a drop tells, and leaves. -/
def ringDrops (ps : List (ByteArray × Bool)) (low : Int) : Bool := (ringGet ps low low).2 && decide (low < 4611686018427387904)

theorem drop_yes {w : World} {R B n : Nat} {low : Int} {ps : List (ByteArray × Bool)} (h : RingAt w R B n low ps) (hd : ringDrops ps low = true) :
    Calls Try.prog 22 #[.pointer (some ⟨R, 0, none⟩)] w fun e w' => e = .returned (.tuple #[.string (ringGet ps low low).1, .bool true]) ∧
      ∃ j, w' = (((w.drewN j).setCell ⟨B, (low % n).toNat * 2, none⟩ (.string ⟨#[]⟩)).setCell ⟨B, (low % n).toNat * 2 + 1, none⟩ (.bool false)).setCell ⟨R, 1, none⟩ (.int .i64 (low + 1)) := by
  have n1 := h.n1
  have l0 := h.low0
  have l1 := h.low1
  have hget := get_any h low (by omega)
  simp only [ringDrops, Bool.and_eq_true, decide_eq_true_eq] at hd
  rw [hd.1] at hget
  have hlt := hd.2
  have c1 := h.c1
  have fR := h.fR 1
  have hlow := low_any h
  have m1 : 0 ≤ low % (n : Int) := Int.emod_nonneg _ (by omega)
  have m2 : low % (n : Int) < n := Int.emod_lt_of_pos _ (by omega)
  have cx := h.px (low % n).toNat (by omega)
  have ct := h.pt (low % n).toNat (by omega)
  have f1 := h.fB ((low % n).toNat * 2)
  have f2 := h.fB ((low % n).toNat * 2 + 1)
  have hne := h.ne
  have hat : ∀ j, Calls Try.prog 26 #[.pointer (some ⟨R, 0, none⟩), .int .i64 low] (w.drewN j) fun e w' => e = .returned (.pointer (some ⟨B, (low % n).toNat * 2, none⟩)) ∧ ∃ n, w' = (w.drewN j).drewN n := by
    intro j
    have := at_any (h.drewN j) low (by omega)
    rwa [ringPtr_yes ⟨by omega, by omega⟩] at this
  have hgetj : ∀ j, Calls Try.prog 27 #[.pointer (some ⟨R, 0, none⟩), .int .i64 low] (w.drewN j) fun e w' => e = .returned (.tuple #[.string (ringGet ps low low).1, .bool true]) ∧ ∃ n, w' = (w.drewN j).drewN n := by
    intro j
    have := get_any (h.drewN j) low (by omega)
    rwa [hd.1] at this
  generalize (low % (n : Int)).toNat = i at *
  generalize (ringGet ps low low).1 = y at *
  clear m1 m2 hget hd
  have HL := Lib.hid hlow
  have HA := Lib.hid hat
  have HG := Lib.hid hgetj
  clear hlow hat hgetj
  go_enter Try.func22, Try.ntmps22
  go_wp2_with (first | (go_at_call 28; refine HL.out.mono ?_; rintro e w' ⟨rfl, j, rfl⟩) | (go_at_call 27; refine (HG.out _).mono ?_; rintro e w' ⟨rfl, j, rfl⟩) | (go_at_call 26; refine (HA.out _).mono ?_; rintro e w' ⟨rfl, j, rfl⟩))
  go_ret2
  exact ⟨rfl, _, rfl⟩
theorem drop_no {w : World} {R B n : Nat} {low : Int} {ps : List (ByteArray × Bool)} (h : RingAt w R B n low ps) (hd : ringDrops ps low = false) :
    Calls Try.prog 22 #[.pointer (some ⟨R, 0, none⟩)] w fun e w' => e = .returned (.tuple #[.string ⟨#[]⟩, .bool false]) ∧ ∃ j, w' = w.drewN j := by
  have l0 := h.low0
  have l1 := h.low1
  have c1 := h.c1
  have hlow := low_any h
  have hgetj : ∀ j, Calls Try.prog 27 #[.pointer (some ⟨R, 0, none⟩), .int .i64 low] (w.drewN j) fun e w' => e = .returned (.tuple #[.string (ringGet ps low low).1, .bool (ringGet ps low low).2]) ∧ ∃ n, w' = (w.drewN j).drewN n :=
    fun j => get_any (h.drewN j) low (by omega)
  have HL := Lib.hid hlow
  clear hlow
  cases hb : (ringGet ps low low).2
  · rw [hb] at hgetj
    generalize (ringGet ps low low).1 = y at *
    clear hd hb
    have HG := Lib.hid hgetj
    clear hgetj
    go_enter Try.func22, Try.ntmps22
    go_wp2_with (first | (go_at_call 28; refine HL.out.mono ?_; rintro e w' ⟨rfl, j, rfl⟩) | (go_at_call 27; refine (HG.out _).mono ?_; rintro e w' ⟨rfl, j, rfl⟩))
    go_ret2
    exact ⟨rfl, _, rfl⟩
  · rw [hb] at hgetj
    have hge : 4611686018427387904 ≤ low := by
      simp only [ringDrops, hb, Bool.true_and, decide_eq_false_iff_not] at hd
      omega
    generalize (ringGet ps low low).1 = y at *
    clear hd hb
    have HG := Lib.hid hgetj
    clear hgetj
    go_enter Try.func22, Try.ntmps22
    go_wp2_with (first | (go_at_call 28; refine HL.out.mono ?_; rintro e w' ⟨rfl, j, rfl⟩) | (go_at_call 27; refine (HG.out _).mono ?_; rintro e w' ⟨rfl, j, rfl⟩))
    go_ret2
    exact ⟨rfl, _, rfl⟩
def ringDrop (ps : List (ByteArray × Bool)) (low : Int) : List (ByteArray × Bool) := ps.set (low % ps.length).toNat (⟨#[]⟩, false)
theorem drop_any {w : World} {R B n : Nat} {low : Int} {ps : List (ByteArray × Bool)} (h : RingAt w R B n low ps) :
    Calls Try.prog 22 #[.pointer (some ⟨R, 0, none⟩)] w fun e w' =>
      e = .returned (.tuple #[.string (if ringDrops ps low = true then (ringGet ps low low).1 else ⟨#[]⟩), .bool (ringDrops ps low)]) ∧
      RingAt w' R B n (if ringDrops ps low = true then low + 1 else low) (if ringDrops ps low = true then ringDrop ps low else ps) ∧ Only (fun b => b = R ∨ b = B) w w' ∧ w'.heap.size = w.heap.size := by
  cases hd : ringDrops ps low
  · refine (drop_no h hd).mono ?_
    rintro e w' ⟨rfl, j, rfl⟩
    exact ⟨rfl, h.drewN j, (Only.refl _ w).drewN j, rfl⟩
  · refine (drop_yes h hd).mono ?_
    rintro e w' ⟨rfl, j, rfl⟩
    have l0 := h.low0
    simp only [ringDrops, Bool.and_eq_true, decide_eq_true_eq] at hd
    refine ⟨rfl, ?_, ?_, ?_⟩
    · simp only [if_true]
      unfold ringDrop
      rw [h.len]
      exact ((h.drewN j).stored _ ⟨#[]⟩ false).lowered _ (by omega) (by omega)
    · exact ((((Only.refl _ w).drewN j).setCell _ _ (.inl (.inr rfl))).setCell _ _ (.inl (.inr rfl))).setCell _ _ (.inl (.inl rfl))
    · simp [World.setCell]

theorem drop_to {w : World} {R B n : Nat} {low : Int} {ps : List (ByteArray × Bool)} (h : RingAt w R B n low ps) (b : Bool) (hb : ringDrops ps low = b) (x : ByteArray) (hx : (if b = true then (ringGet ps low low).1 else ⟨#[]⟩) = x)
    (low' : Int) (hl : (if b = true then low + 1 else low) = low') (ps' : List (ByteArray × Bool)) (hp : (if b = true then ringDrop ps low else ps) = ps') :
    Calls Try.prog 22 #[.pointer (some ⟨R, 0, none⟩)] w fun e w' =>
      e = .returned (.tuple #[.string x, .bool b]) ∧ RingAt w' R B n low' ps' ∧ Only (fun b => b = R ∨ b = B) w w' ∧ w'.heap.size = w.heap.size := by
  have := drop_any h
  rwa [hb, hx, hl, hp] at this
theorem get_nil (k : Int) (w : World) :
    Calls Try.prog 27 #[.pointer none, .int .i64 k] w fun e w' => e = .returned (.tuple #[.string ⟨#[]⟩, .bool false]) ∧ ∃ n, w' = w.drewN n := by
  go_enter Try.func27, Try.ntmps27
  go_wp2_with (go_at_call 26; refine (at_nil _ _).mono ?_; rintro e w' ⟨rfl, j, rfl⟩)
  go_ret2
  exact ⟨rfl, _, rfl⟩
theorem drop_nil (w : World) :
    Calls Try.prog 22 #[.pointer none] w fun e w' => e = .returned (.tuple #[.string ⟨#[]⟩, .bool false]) ∧ ∃ j, w' = w.drewN j := by
  go_enter Try.func22, Try.ntmps22
  go_wp2_with (first | (go_at_call 28; refine (low_nil _).mono ?_; rintro e w' ⟨rfl, j, rfl⟩) | (go_at_call 27; refine (get_nil _ _).mono ?_; rintro e w' ⟨rfl, j, rfl⟩))
  go_ret2
  exact ⟨rfl, _, rfl⟩
theorem put_nil (x : ByteArray) (k : Int) (w : World) :
    Calls Try.prog 21 #[.pointer none, .int .i64 k, .string x] w fun e w' => e = .returned (.bool false) ∧ ∃ j, w' = w.drewN j :=
  put_none none x k (at_nil k w)

/-! ### New -/
theorem placeCells_zero (n : Nat) : placeCells (List.replicate n (⟨#[]⟩, false)) = (madeCells #[.string ⟨#[]⟩, .bool false] (n * 2)).toList := by
  apply List.ext_getElem?
  intro i
  by_cases hi : i < n * 2
  · have h1 : (madeCells #[.string ⟨#[]⟩, .bool false] (n * 2)).toList[i]? = some (#[Value.string ⟨#[]⟩, Value.bool false][i % 2]!) := by
      simp [madeCells, hi]
    rw [h1]
    have h2 : i / 2 < (List.replicate n ((⟨#[]⟩ : ByteArray), false)).length := by simp; omega
    rcases Nat.mod_two_eq_zero_or_one i with h | h
    · have := placeCells_x _ _ h2
      rw [show i / 2 * 2 = i by omega] at this
      rw [this, h]
      simp [List.getD_eq_getElem?_getD, List.getElem?_replicate]
      split <;> rfl
    · have := placeCells_t _ _ h2
      rw [show i / 2 * 2 + 1 = i by omega] at this
      rw [this, h]
      simp [List.getD_eq_getElem?_getD, List.getElem?_replicate]
      split <;> rfl
  · have h1 : (placeCells (List.replicate n (⟨#[]⟩, false))).length ≤ i := by rw [placeCells_length]; simp; omega
    rw [List.getElem?_eq_none h1, List.getElem?_eq_none (by simp [madeCells]; omega)]

theorem new_yes (n : Nat) (w : World) (h1 : 1 ≤ n) (h2 : n ≤ 4096) :
    Calls Try.prog 20 #[.int .i64 n] w fun e w' => e = .returned (.pointer (some ⟨w.heap.size + 1, 0, none⟩)) ∧
      RingAt w' (w.heap.size + 1) w.heap.size n 0 (List.replicate n (⟨#[]⟩, false)) ∧ Below w.heap.size w w' ∧ w'.heap.size = w.heap.size + 2 := by
  have hi : ∃ i, Try.prog.info? 68 = some i ∧ i.zero = some (.agg #[.string ⟨#[]⟩, .bool false]) ∧ i.size = 2 ∧ i.bytes = 24 := ⟨_, rfl, by kernel_rfl, by kernel_rfl, by kernel_rfl⟩
  obtain ⟨i, hi0, hi1, hi2, hi3⟩ := hi
  have hmk : ∀ W : World, (Instr.makeSlice 62 (.int .i64 (n : Int)) (.int .i64 (n : Int))).run Try.prog W = .ok (.slice (some ⟨W.heap.size, 0, none⟩) n n) (W.alloc (.cells (placeCells (List.replicate n (⟨#[]⟩, false))).toArray 68 (0, 0))) := by
    intro W
    have := run_make (P := Try.prog) W 62 68 i _ Try.underlying62 hi0 hi1 .i64 .i64 n n (by omega) (by omega) (by rw [hi3]; omega) (by omega)
    rw [hi2] at this
    rw [this, placeCells_zero]
    simp [Value.cells]
  generalize hps : placeCells (List.replicate n (⟨#[]⟩, false)) = cs at *
  have HP := Lib.hid hps
  clear hps hi0 hi1 hi2 hi3
  have z1 : (1 : Int) ≤ n := by omega
  have z2 : (n : Int) ≤ 4096 := by omega
  go_enter Try.func20, Try.ntmps20
  go_wp2
  go_ret
  refine ⟨rfl, ⟨?_, ?_, by omega, by simp, h1, h2, by omega, by omega⟩, ((Below.refl _ _).alloc (Nat.le_refl _) _).alloc (by simp) _, by simp⟩
  · have := alloc_new (w.alloc (.cells cs.toArray 68 (0, 0))) (.cells #[.slice (some ⟨w.heap.size, 0, none⟩) n n, .int .i64 0] 64 (0, 0))
    rwa [World.size_alloc] at this
  · rw [HP.out]
    exact alloc_old (alloc_new w _) _
theorem new_no (n : Int) (w : World) (h : n < 1 ∨ 4096 < n) :
    Calls Try.prog 20 #[.int .i64 n] w fun e w' => e = .returned (.pointer none) ∧ w' = w := by
  rcases h with h | h
  · go_enter Try.func20, Try.ntmps20
    go_wp2
    go_ret
    exact ⟨rfl, rfl⟩
  · have h' : ¬ n < 1 := by omega
    go_enter Try.func20, Try.ntmps20
    go_wp2
    go_ret
    exact ⟨rfl, rfl⟩
end Go.Proofs.Ythjcomekfiibnaa.RS
