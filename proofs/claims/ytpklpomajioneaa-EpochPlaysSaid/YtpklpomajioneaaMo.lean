/- Chapter 12: the document's epochs (sibylref12) in memory; what their functions do. -/
import Derived.Test.YtpklpomajioneaaRipesN
namespace Go.Proofs.Ytpklpomajioneaa
open Go.RowKit
set_option linter.unusedVariables false
set_option linter.unusedSimpArgs false

/-- The document's epochs: at block b; R is the row of actors. -/
structure MoAt (w : World) (lo b R n c : Nat) (s : EpS) (mv : Nat → Value) : Prop where
  eb : w.heap[b]? = some (.cells #[.int .i64 s.now, .slice (some ⟨R, 0, none⟩) n c] 57 (0, 0))
  rb : ∃ cur : List Value, w.heap[R]? = some (.cells cur.toArray 70 (0, 0)) ∧ ∀ i, i < n → cur[i * 2]? = some (.int .i64 (s.pin i)) ∧ cur[i * 2 + 1]? = some (mv i)
  lb : lo ≤ b
  lr : lo ≤ R
  n1 : 1 ≤ n
  n16 : n ≤ 16
  row : ∀ i, i < n → w.ownsRow lo 72 3 (mv i) (s.lim i).length (oldCells (s.lim i))
  apart : ∀ i j k, i < n → j < n → i ≠ j → (mv i).ownBlock = some k → (mv j).ownBlock ≠ some k
def MoOwn (b R n : Nat) (mv : Nat → Value) (k : Nat) : Prop := k = b ∨ k = R ∨ ∃ i, i < n ∧ (mv i).ownBlock = some k
theorem MoAt.ne {w : World} {lo b R n c : Nat} {s : EpS} {mv : Nat → Value} (h : MoAt w lo b R n c s mv) : b ≠ R := by
  rintro rfl
  obtain ⟨cur, hc, _⟩ := h.rb
  have := h.eb.symm.trans hc
  simp at this
theorem MoAt.row_not {w : World} {lo b R n c : Nat} {s : EpS} {mv : Nat → Value} (h : MoAt w lo b R n c s mv) {i : Nat} (hi : i < n) {k : Nat} (hk : (mv i).ownBlock = some k) : k ≠ b ∧ k ≠ R := by
  constructor
  · rintro rfl
    exact absurd (own_type (h.row i hi) hk h.eb) (by decide)
  · rintro rfl
    obtain ⟨cur, hc, _⟩ := h.rb
    exact absurd (own_type (h.row i hi) hk hc) (by decide)
theorem MoAt.kept {S : Nat → Prop} {w w' : World} {lo b R n c : Nat} {s : EpS} {mv : Nat → Value} (h : MoAt w lo b R n c s mv) (k : Only S w w') (hS : ∀ i, S i → ¬ MoOwn b R n mv i) : MoAt w' lo b R n c s mv := by
  obtain ⟨cur, hc, hcur⟩ := h.rb
  exact ⟨k.block h.eb (fun hs => hS b hs (.inl rfl)), ⟨cur, k.block hc (fun hs => hS R hs (.inr (.inl rfl))), hcur⟩, h.lb, h.lr, h.n1, h.n16, fun i hi => ownsRow_kept (h.row i hi) k (fun j hj hk => hS j hj (.inr (.inr ⟨i, hi, hk⟩))), h.apart⟩
theorem MoAt.below0 {w w' : World} {lo b R n c : Nat} {s : EpS} {mv : Nat → Value} (h : MoAt w lo b R n c s mv) (hb : Below w.heap.size w w') : MoAt w' lo b R n c s mv :=
  h.kept (Only.of_below (S := fun _ => False) hb) (fun _ h => h.elim)
theorem MoAt.own_lt {w : World} {lo b R n c : Nat} {s : EpS} {mv : Nat → Value} (h : MoAt w lo b R n c s mv) {k : Nat} (hk : MoOwn b R n mv k) : k < w.heap.size := by
  obtain ⟨cur, hc, _⟩ := h.rb
  rcases hk with rfl | rfl | ⟨i, hi, hk⟩
  · exact block_lt h.eb
  · exact block_lt hc
  · exact Go.Proofs.Ytpklpomajioneaa.own_lt (h.row i hi) hk
theorem MoAt.own_lo {w : World} {lo b R n c : Nat} {s : EpS} {mv : Nat → Value} (h : MoAt w lo b R n c s mv) {k : Nat} (hk : MoOwn b R n mv k) : lo ≤ k := by
  rcases hk with rfl | rfl | ⟨i, hi, hk⟩
  · exact h.lb
  · exact h.lr
  · exact own_block (h.row i hi) hk
/-- A block of another type is none of theirs. -/
theorem MoAt.not_own {w : World} {lo b R n c : Nat} {s : EpS} {mv : Nat → Value} (h : MoAt w lo b R n c s mv) {k : Nat} {cs : Array Value} {t : TypeId} {fr : Nat × Nat} (hk : w.heap[k]? = some (.cells cs t fr)) (h1 : t ≠ 57) (h2 : t ≠ 70) (h3 : t ≠ 72) : ¬ MoOwn b R n mv k := by
  obtain ⟨cur, hc, _⟩ := h.rb
  rintro (rfl | rfl | ⟨i, hi, ho⟩)
  · have := h.eb.symm.trans hk
    simp at this
    exact h1 this.2.1.symm
  · have := hc.symm.trans hk
    simp at this
    exact h2 this.2.1.symm
  · exact h3 (own_type (h.row i hi) ho hk)
theorem MoAt.c0 {w : World} {lo b R n c : Nat} {s : EpS} {mv : Nat → Value} (h : MoAt w lo b R n c s mv) : w.cell? ⟨b, 0, none⟩ = some (.int .i64 s.now) := cell_of_blk h.eb 0
theorem MoAt.c1 {w : World} {lo b R n c : Nat} {s : EpS} {mv : Nat → Value} (h : MoAt w lo b R n c s mv) : w.cell? ⟨b, 1, none⟩ = some (.slice (some ⟨R, 0, none⟩) n c) := cell_of_blk h.eb 1
theorem MoAt.f0 {w : World} {lo b R n c : Nat} {s : EpS} {mv : Nat → Value} (h : MoAt w lo b R n c s mv) (i : Nat) : w.frozen? ⟨b, i, none⟩ = false := free_of_blk h.eb i
theorem MoAt.cp {w : World} {lo b R n c : Nat} {s : EpS} {mv : Nat → Value} (h : MoAt w lo b R n c s mv) {i : Nat} (hi : i < n) : w.cell? ⟨R, i * 2, none⟩ = some (.int .i64 (s.pin i)) := by
  obtain ⟨cur, hc, hcur⟩ := h.rb
  exact (cell_of_blk hc _).trans (hcur i hi).1
theorem MoAt.cl {w : World} {lo b R n c : Nat} {s : EpS} {mv : Nat → Value} (h : MoAt w lo b R n c s mv) {i : Nat} (hi : i < n) : w.cell? ⟨R, i * 2 + 1, none⟩ = some (mv i) := by
  obtain ⟨cur, hc, hcur⟩ := h.rb
  exact (cell_of_blk hc _).trans (hcur i hi).2
theorem MoAt.fr {w : World} {lo b R n c : Nat} {s : EpS} {mv : Nat → Value} (h : MoAt w lo b R n c s mv) (i : Nat) : w.frozen? ⟨R, i, none⟩ = false := by
  obtain ⟨cur, hc, hcur⟩ := h.rb
  exact free_of_blk hc i
theorem MoAt.set_now {w : World} {lo b R n c : Nat} {s : EpS} {mv : Nat → Value} (h : MoAt w lo b R n c s mv) (m : Nat) : MoAt (w.setCell ⟨b, 0, none⟩ (.int .i64 m)) lo b R n c { s with now := m } mv := by
  have ho : Only (fun k => k = b) w (w.setCell ⟨b, 0, none⟩ (.int .i64 m)) := (Only.refl (fun k => k = b) w).setCell _ _ (.inl rfl)
  have hb := setCell_same h.eb (i := 0) (.int .i64 m)
  obtain ⟨cur, hc, hcur⟩ := h.rb
  exact ⟨hb, ⟨cur, ho.block hc (fun e => h.ne e.symm), hcur⟩, h.lb, h.lr, h.n1, h.n16, fun i hi => ownsRow_kept (h.row i hi) ho (by rintro j rfl hk; exact (h.row_not hi hk).1 rfl), h.apart⟩
theorem MoAt.set_pin {w : World} {lo b R n c : Nat} {s : EpS} {mv : Nat → Value} (h : MoAt w lo b R n c s mv) {a : Nat} (ha : a < n) (v : Int) : MoAt (w.setCell ⟨R, a * 2, none⟩ (.int .i64 v)) lo b R n c { s with pin := upd s.pin a v } mv := by
  have ho : Only (fun k => k = R) w (w.setCell ⟨R, a * 2, none⟩ (.int .i64 v)) := (Only.refl (fun k => k = R) w).setCell _ _ (.inl rfl)
  obtain ⟨cur, hc, hcur⟩ := h.rb
  have hb := setCell_same hc (i := a * 2) (.int .i64 v)
  have hla : a * 2 < cur.length := (List.getElem?_eq_some_iff.1 (hcur a ha).1).1
  refine ⟨ho.block h.eb (fun e => h.ne e), ⟨_, hb, fun i hi => ?_⟩, h.lb, h.lr, h.n1, h.n16, fun i hi => ownsRow_kept (h.row i hi) ho (by rintro j rfl hk; exact (h.row_not hi hk).2 rfl), h.apart⟩
  constructor
  · show _ = some (Value.int .i64 (upd s.pin a v i))
    by_cases e : i = a
    · subst e
      rw [upd_same, List.getElem?_set_self hla]
    · rw [upd_other _ _ e, List.getElem?_set_ne (by omega)]
      exact (hcur i hi).1
  · rw [List.getElem?_set_ne (by omega)]
    exact (hcur i hi).2
theorem MoAt.set_lim {V w1 : World} {lo b R n c : Nat} {s : EpS} {mv : Nat → Value} (h : MoAt V lo b R n c s mv) {a : Nat} (ha : a < n) {l : List OldV} {v : Value} {row : Option Nat} (hrow : row = none ∨ row = (mv a).ownBlock) (hgr : V.grownBy w1 row) (hown : w1.ownsRow lo 72 3 v l.length (oldCells l))
    (hv : ∀ k, v.ownBlock = some k → (mv a).ownBlock = some k ∨ ∀ i, i < n → (mv i).ownBlock ≠ some k) :
    MoAt (w1.setCell ⟨R, a * 2 + 1, none⟩ v) lo b R n c { s with lim := upd s.lim a l } (upd mv a v) ∧ Only (MoOwn b R n mv) V (w1.setCell ⟨R, a * 2 + 1, none⟩ v) := by
  have ho1 : Only (fun k => (mv a).ownBlock = some k) V w1 := only_grown (Only.refl _ _) hgr (fun k hk => .inl (by
    rcases hrow with h | h
    · rw [h] at hk; cases hk
    · rw [← h]; exact hk))
  have ho2 : Only (fun k => k = R) w1 (w1.setCell ⟨R, a * 2 + 1, none⟩ v) := (Only.refl (fun k => k = R) w1).setCell _ _ (.inl rfl)
  obtain ⟨cur, hc, hcur⟩ := h.rb
  have hc1 := ho1.block hc (fun hk => (h.row_not ha hk).2 rfl)
  have he1 := ho1.block h.eb (fun hk => (h.row_not ha hk).1 rfl)
  have hb := setCell_same hc1 (i := a * 2 + 1) v
  have hla : a * 2 + 1 < cur.length := (List.getElem?_eq_some_iff.1 (hcur a ha).2).1
  have hvR : v.ownBlock ≠ some R := fun hk => absurd (own_type hown hk hc1) (by decide)
  refine ⟨⟨ho2.block he1 (fun e => h.ne e), ⟨_, hb, fun i hi => ?_⟩, h.lb, h.lr, h.n1, h.n16, fun i hi => ?_, fun i j k hi hj hij hk => ?_⟩, (ho1.mono (fun k hk => .inr (.inr ⟨a, ha, hk⟩))).trans (ho2.mono (fun k hk => .inr (.inl hk)))⟩
  · constructor
    · rw [List.getElem?_set_ne (by omega)]
      exact (hcur i hi).1
    · by_cases e : i = a
      · subst e
        rw [upd_same, List.getElem?_set_self hla]
      · rw [upd_other _ _ e, List.getElem?_set_ne (by omega)]
        exact (hcur i hi).2
  · show (w1.setCell ⟨R, a * 2 + 1, none⟩ v).ownsRow lo 72 3 (upd mv a v i) (upd s.lim a l i).length (oldCells (upd s.lim a l i))
    by_cases e : i = a
    · subst e
      rw [upd_same, upd_same]
      exact ownsRow_kept hown ho2 (by rintro j rfl hk; exact hvR hk)
    · rw [upd_other _ _ e, upd_other _ _ e]
      exact ownsRow_kept (ownsRow_kept (h.row i hi) ho1 (fun j hj hk => h.apart a i j ha hi (fun e2 => e e2.symm) hj hk)) ho2 (by rintro j rfl hk; exact (h.row_not hi hk).2 rfl)
  · by_cases e : i = a
    · subst e
      rw [upd_same] at hk
      rw [upd_other _ _ (fun e => hij e.symm)]
      rcases hv k hk with h1 | h1
      · exact h.apart i j k hi hj hij h1
      · exact h1 j hj
    · rw [upd_other _ _ e] at hk
      by_cases e2 : j = a
      · subst e2
        rw [upd_same]
        intro hk2
        rcases hv k hk2 with h1 | h1
        · exact h.apart i j k hi hj hij hk h1
        · exact h1 i hi hk
      · rw [upd_other _ _ e2]
        exact h.apart i j k hi hj hij hk
theorem mo_is {w : World} {lo b R n c : Nat} {s : EpS} {mv : Nat → Value} (h : MoAt w lo b R n c s mv) (a : Int) (t : Bool) (ht : decide (0 ≤ a ∧ a < n) = t) :
    Calls Try.prog 34 #[.pointer (some ⟨b, 0, none⟩), .int .i64 a] w fun e w' => e = .returned (.bool t) ∧ w = w' := by
  have c1 := h.c1
  have HT := Lib.hid ht
  clear ht
  by_cases h0 : 0 ≤ a
  · by_cases h1 : a < n
    · have d1 : decide (a < (n : Int)) = true := decide_eq_true h1
      obtain rfl : t = true := by have := HT.out; rw [← this]; exact decide_eq_true ⟨h0, h1⟩
      go_enter Try.func34, Try.ntmps34
      go_wp2_with fail
      go_ret
      exact ⟨rfl, rfl⟩
    · have d1 : decide (a < (n : Int)) = false := decide_eq_false h1
      obtain rfl : t = false := by have := HT.out; rw [← this]; exact decide_eq_false (fun h => h1 h.2)
      go_enter Try.func34, Try.ntmps34
      go_wp2_with fail
      go_ret
      exact ⟨rfl, rfl⟩
  · obtain rfl : t = false := by have := HT.out; rw [← this]; exact decide_eq_false (fun h => h0 h.1)
    go_enter Try.func34, Try.ntmps34
    go_wp2_with fail
    go_ret
    exact ⟨rfl, rfl⟩
end Go.Proofs.Ytpklpomajioneaa
