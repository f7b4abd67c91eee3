/- Rows of pairs of numbers, and 'same': are two rows of items the same? -/
import Derived.Test.YthjcomekfiibnaaHelp10
import Derived.Test.YthjcomekfiibnaaRingPure
namespace Go.Proofs.Ythjcomekfiibnaa
open Go.RowKit
set_option linter.unusedVariables false

/-- A row of pairs of numbers, in a block from lo on. -/
structure PairsAt (w : World) (lo : Nat) (a : Option Addr) (n : Nat) (l : List (Int × Int)) : Prop where
  len : l.length = n
  cells : 0 < n → ∃ b off, a = some ⟨b, off, none⟩ ∧ lo ≤ b ∧ b < w.heap.size ∧ ∀ i, i < n → w.cell? ⟨b, off + i * 2, none⟩ = some (.int .i64 (l.getD i (0, 0)).1) ∧ w.cell? ⟨b, off + i * 2 + 1, none⟩ = some (.int .i64 (l.getD i (0, 0)).2)
theorem itemCells_at (l : List (Int × Int)) : ∀ i, i < l.length → (itemCells l)[i * 2]? = some (.int .i64 (l.getD i (0, 0)).1) ∧ (itemCells l)[i * 2 + 1]? = some (.int .i64 (l.getD i (0, 0)).2) := by
  induction l with
  | nil => intro i hi; simp at hi
  | cons p l ih =>
    intro i hi
    cases i with
    | zero => exact ⟨rfl, rfl⟩
    | succ i =>
      have := ih i (by simpa using hi)
      rw [show (i + 1) * 2 = i * 2 + 1 + 1 by omega]
      simpa [itemCells] using this
theorem PairsAt.of_own {w : World} {base : Nat} {e : TypeId} {v : Value} {n : Nat} {l : List (Int × Int)} (h : w.ownsRow base e 2 v n (itemCells l)) : ∃ a cap, v = .slice a n cap ∧ PairsAt w base a n l := by
  have hl : l.length = n := by have := h.1; rw [itemCells_length] at this; omega
  rcases h.2 with ⟨rfl, rfl⟩ | ⟨g, cap, cur, rfl, hb, hg, h1, h2, h3, h4⟩
  · exact ⟨none, 0, rfl, hl, fun h => by omega⟩
  · refine ⟨_, cap, rfl, hl, fun hp => ⟨g, 0, rfl, hb, block_lt hg, fun i hi => ?_⟩⟩
    have hc := itemCells_at l i (by omega)
    have hget : ∀ j, j < n * 2 → w.cell? ⟨g, 0 + j, none⟩ = (itemCells l)[j]? := by
      intro j hj
      rw [← h4, List.getElem?_take, if_pos hj]
      simp [World.cell?, hg]
    rw [hget _ (by omega), show 0 + i * 2 + 1 = 0 + (i * 2 + 1) by omega, hget _ (by omega)]
    exact hc
theorem PairsAt.kept {w w' : World} {lo : Nat} {a : Option Addr} {n : Nat} {l : List (Int × Int)} (h : PairsAt w lo a n l) {S : Nat → Prop} (k : Only S w w') (hS : ∀ i, S i → i < lo) : PairsAt w' lo a n l := by
  refine ⟨h.len, fun hp => ?_⟩
  obtain ⟨b, off, rfl, h1, h2, hc⟩ := h.cells hp
  refine ⟨b, off, rfl, h1, Nat.lt_of_lt_of_le h2 k.size, fun i hi => ?_⟩
  have hb := k.keep b h2 (fun g => by have := hS b g; omega)
  have : ∀ j, w'.cell? ⟨b, j, none⟩ = w.cell? ⟨b, j, none⟩ := fun j => World.cell?_of_block hb
  rw [this, this]
  exact hc i hi

theorem take_eq_of {l l' : List (Int × Int)} {k : Nat} (h : l.take k = l'.take k) (h1 : k < l.length) (h2 : k < l'.length) : (l.getD k (0, 0) = l'.getD k (0, 0)) ↔ l.take (k + 1) = l'.take (k + 1) := by
  rw [List.take_succ_eq_append_getElem h1, List.take_succ_eq_append_getElem h2, List.getD_eq_getElem?_getD, List.getD_eq_getElem?_getD, List.getElem?_eq_getElem h1, List.getElem?_eq_getElem h2, h]
  simp only [List.append_right_inj, List.cons.injEq, and_true, Option.getD_some]

set_option maxHeartbeats 1000000 in
theorem same_any (w : World) (lo lo' : Nat) (a b : Option Addr) (n m c c' : Nat) (l l' : List (Int × Int)) (ha : PairsAt w lo a n l) (hb : PairsAt w lo' b m l') (hn : n ≤ 4096) (hm : m ≤ 4096) :
    Calls Try.prog 16 #[.slice a n c, .slice b m c'] w fun e w' => e = .returned (.bool (decide (l = l'))) ∧ ∃ j, w' = w.drewN j := by
  by_cases hnm : n = m
  · subst hnm
    have z1 : ((n : Int) != n) = false := by simp
    have HA := Lib.hid ha
    have HB := Lib.hid hb
    clear ha hb
    go_enter Try.func16, Try.ntmps16
    go_wp2
    clear z1
    go_loopw [5] (fun i wr => ∃ k : Nat, k ≤ n ∧ i = .int .i64 k ∧ l.take k = l'.take k ∧ ∃ j, wr = w.drewN j) (fun i _ => n - (intOf i).toNat)
    case atStart => exact ⟨0, Nat.zero_le _, rfl, rfl, 0, rfl⟩
    case round =>
      obtain ⟨k, hk, rfl, ht, j, rfl⟩ := hrel
      have HT := Lib.hid ht
      clear ht
      by_cases hlt : k < n
      · have hta := take_eq_of HT.out (by rw [HA.out.len]; exact hlt) (by rw [HB.out.len]; exact hlt)
        obtain ⟨b1, o1, rfl, _, _, hc1⟩ := HA.out.cells (by omega)
        obtain ⟨b2, o2, rfl, _, _, hc2⟩ := HB.out.cells (by omega)
        obtain ⟨x1, x2⟩ := hc1 k hlt
        obtain ⟨y1, y2⟩ := hc2 k hlt
        generalize l.getD k (0, 0) = p at *
        generalize l'.getD k (0, 0) = q at *
        have HTA := Lib.hid hta
        clear hta hc1 hc2
        have hk0 : (k : Int) < n := by omega
        obtain ⟨p1, p2⟩ := p
        obtain ⟨q1, q2⟩ := q
        dsimp only at x1 x2 y1 y2
        by_cases h1 : p1 = q1
        · subst h1
          by_cases h2 : p2 = q2
          · subst h2
            go_wp2
            go_quiet (fail)
            go_wp2
            go_roundw
            case rel => exact ⟨k + 1, by omega, by go_num, HTA.out.1 (by trivial), _, rfl⟩
            case measure => simp [intOf]; omega
          · go_wp2
            go_quiet (fail)
            go_wp2
            go_ret
            exact ⟨by rw [decide_eq_false (fun h => h2 (by subst h; have := HTA.out.2 rfl; simpa using this))]; rfl, drews _ _ _⟩
        · go_wp2
          go_quiet (fail)
          go_wp2
          go_ret
          exact ⟨by rw [decide_eq_false (fun h => h1 (by subst h; have := HTA.out.2 rfl; simp at this; exact this.1))]; rfl, drews _ _ _⟩
      · obtain rfl : n = k := by omega
        go_wp2
        go_ret
        exact ⟨by
          have := HT.out
          rw [List.take_of_length_le (by rw [HA.out.len]; omega), List.take_of_length_le (by rw [HB.out.len]; omega)] at this
          rw [decide_eq_true this]; rfl, _, rfl⟩
  · have z1 : ((n : Int) != m) = true := by simp; omega
    have e : decide (l = l') = false := decide_eq_false (fun h => hnm (by rw [← ha.len, ← hb.len, h]))
    rw [e]
    clear ha hb e
    go_enter Try.func16, Try.ntmps16
    go_wp2
    go_ret
    exact ⟨rfl, 0, rfl⟩
end Go.Proofs.Ythjcomekfiibnaa
