/- The document's own ring (sibylref10): Drop. -/
import Derived.Test.YthjcomekfiibnaaRef10W
namespace Go.Proofs.Ythjcomekfiibnaa
open Go.RowKit
set_option linter.unusedVariables false

/-- Does a drop tell something? -/
def refDrops (l : List (Int × Int)) (low : Int) : Bool := match l with | p :: _ => p.1 == low | [] => false

set_option maxHeartbeats 1000000 in
theorem refdrop_no {w : World} {lo M : Nat} {n low : Int} {l : List (Int × Int)} {A : Option Addr} {c : Nat} (h : RefAt w lo M n low l A c) (hno : refDrops l low = false) :
    Calls Try.prog 11 #[.pointer (some ⟨M, 0, none⟩)] w fun e w' => e = .returned (.tuple #[.int .i64 0, .bool false]) ∧ ∃ j, w' = w.drewN j := by
  have c1 := h.c1
  have c2 := h.c2
  have hp := h.pairs
  clear h
  cases l with
  | nil =>
    have c2' : w.cell? ⟨M, 2, none⟩ = some (.slice A 0 c) := c2
    clear c2 hp hno
    go_enter Try.func11, Try.ntmps11
    go_wp2_with fail
    go_quiet (fail)
    go_wp2_with fail
    go_ret2
    exact ⟨rfl, _, rfl⟩
  | cons p l =>
    obtain ⟨b1, o1, rfl, _, _, hc1⟩ := hp.cells (by simp)
    obtain ⟨x1, x2⟩ := hc1 0 (by simp)
    have d1 : (p.1 != low) = true := by simp only [refDrops] at hno; simp [bne, hno]
    have x1' : w.cell? ⟨b1, o1, none⟩ = some (.int .i64 p.1) := by simpa using x1
    obtain ⟨N, hN⟩ : ∃ N, N = (p :: l).length := ⟨_, rfl⟩
    rw [← hN] at c2
    have hN1 : 0 < N := by rw [hN]; simp
    have d2 : ((N : Int) == 0) = false := by simp; omega
    have d3 : (0 : Int) < N := by omega
    generalize p.1 = q at *
    clear hp hno hc1 x1 x2 hN
    go_enter Try.func11, Try.ntmps11
    go_wp2_with fail
    go_quiet (fail)
    go_wp2_with fail
    go_ret2
    exact ⟨rfl, _, rfl⟩

theorem RefAt.lowered {w : World} {lo M : Nat} {n low : Int} {l : List (Int × Int)} {A : Option Addr} {c : Nat} (h : RefAt w lo M n low l A c) (low' : Int) : RefAt (w.setCell ⟨M, 1, none⟩ (.int .i64 low')) lo M n low' l A c := by
  refine ⟨setCell_same h.hM _, ownsRow_kept (S := fun b => b = M) h.row ((Only.refl _ _).setCell _ _ (.inl rfl)) ?_, h.lo_, h.ne⟩
  rintro i rfl hk
  cases A with
  | none => cases hk
  | some a => injection hk with hk; exact h.ne a rfl hk
set_option maxHeartbeats 2000000 in
set_option maxRecDepth 100000 in
theorem refdrop_yes {w : World} {lo M : Nat} {n low x : Int} {l : List (Int × Int)} {A : Option Addr} {c : Nat} (h : RefAt w lo M n low ((low, x) :: l) A c) (h0 : 0 ≤ low) (h1 : low < 9223372036854775807) (hlen : l.length ≤ 4095) :
    Calls Try.prog 11 #[.pointer (some ⟨M, 0, none⟩)] w fun e w' => e = .returned (.tuple #[.int .i64 x, .bool true]) ∧ (∃ A' c', RefAt w' lo M n (low + 1) l A' c') ∧ Only (fun b => b = M) w w' := by
  have c1 := h.c1
  have c2 := h.c2
  have H := Lib.hid h
  have hp := h.pairs
  have hcc := h.le_cap
  clear h
  cases A with
  | none => have := H.out.bare; simp at this
  | some b =>
    obtain ⟨b1, rfl⟩ := H.out.form
    obtain ⟨b1', o1, he, _, _, hc1⟩ := hp.cells (by simp)
    injection he with he
    injection he with he1 he2
    subst he1 he2
    obtain ⟨x1, x2⟩ := hc1 0 (by simp)
    have x1' : w.cell? ⟨b1, 0, none⟩ = some (.int .i64 low) := by simpa using x1
    have x2' : w.cell? ⟨b1, 1, none⟩ = some (.int .i64 x) := by simpa using x2
    obtain ⟨N, hN⟩ : ∃ N, N = ((low, x) :: l).length := ⟨_, rfl⟩
    have HN := Lib.hid hN
    rw [← hN] at c2 hcc
    have hN1 : N ≤ l.length + 1 := Nat.le_of_eq hN
    have hN2 : l.length + 1 ≤ N := Nat.le_of_eq hN.symm
    have d2 : ((N : Int) == 0) = false := by simp; omega
    have d3 : (0 : Int) < N := by omega
    have d4 : (low != low) = false := by simp
    obtain ⟨i0, hi, hz0, hz1, hz2⟩ := info_parts infoItem2
    clear hp hc1 x1 x2 hN
    go_enter Try.func11, Try.ntmps11
    go_wp2_with fail
    go_quiet (fail)
    obtain ⟨w1, hw1⟩ : ∃ w1, w1 = w.drewN nq := ⟨_, rfl⟩
    have H1 : RefAt w1 lo M n low ((low, x) :: l) _ c := hw1 ▸ H.out.drewN nq
    have HO : Only (fun b => b = M) w w1 := hw1 ▸ (Only.refl _ _).drewN nq
    rw [← hw1]
    have c2 : w1.cell? ⟨M, 2, none⟩ = some (.slice (some ⟨b1, 0, none⟩) N c) := by rw [HN.out]; exact H1.c2
    have x2' : w1.cell? ⟨b1, 1, none⟩ = some (.int .i64 x) := by rw [hw1]; simpa using x2'
    clear hw1 H d2 d4 c1 x1'
    have ca : (w1.alloc (.cells #[] 44)).cell? ⟨M, 2, none⟩ = some (.slice (some ⟨b1, 0, none⟩) N c) := by
      rw [← c2]
      exact World.cell?_of_block (alloc_old' _ (block_lt H1.hM))
    have hown0 : (w1.alloc (.cells #[] 44)).ownsRow w1.heap.size 44 2 (.slice (some ⟨w1.heap.size, 0, none⟩) 0 0) 0 [] := ⟨rfl, .inr ⟨_, 0, #[], rfl, Nat.le_refl _, alloc_new _ _, Nat.le_refl _, Nat.zero_le _, rfl, rfl⟩⟩
    have hMl := block_lt H1.hM
    have HH := Lib.hid H1
    clear H1
    have d5 : (1 : Int) ≤ N := by omega
    by_cases hc1 : c = 1
    · subst hc1
      obtain rfl : N = 1 := by omega
      obtain rfl : l = [] := List.eq_nil_of_length_eq_zero (by omega)
      have hr1 : Reads (w1.alloc (.cells #[] 44)) 2 (.slice (some ⟨b1, 0, none⟩) 0 0) 0 [] := ⟨rfl, (fun u h => by cases h), .inl ⟨_, _, rfl, (fun j u h => by cases h)⟩⟩
      go_wp2_with (at_builtin; refine wpList_append_reads _ rfl (.tmp 33) (.tmp 38) 28 rfl w1.heap.size 44 i0 _ 2 16 Try.underlying28 hi hz0 hz1 hz2 rfl (by decide) (.slice (some ⟨w1.heap.size, 0, none⟩) 0 0) 0 [] rfl hown0 _ 0 [] rfl hr1 (by decide) (by decide) (by simp) ?_; intro v1 w2 hown1 hgr1; obtain ⟨A3, c3, rfl⟩ := own_form hown1; have ho2 : Only (fun _ => False) w1 w2 := only_grown ((Only.refl _ _).alloc _) hgr1 (fun k hk => .inr (own_block hown0 hk)); have H2 := HH.out.kept ho2 (fun _ h => h.elim); have c21 := H2.c1; have c22 := H2.c2; have f21 := H2.fr 1; have f22 := H2.fr 2)
      go_ret2
      obtain ⟨A', c', hend⟩ := H2.items (l' := []) hown1 rfl rfl (by have := HH.out.lo_; omega) (by omega)
      exact ⟨rfl, ⟨A', c', hend.lowered (low + 1)⟩, ((HO.trans (ho2.mono (fun _ h => h.elim))).setCell _ _ (.inl rfl)).setCell _ _ (.inl rfl)⟩
    · have hr1 : Reads (w1.alloc (.cells #[] 44)) 2 (.slice (some ⟨b1, 2, none⟩) (N - 1) (c - 1)) (N - 1) (itemCells l) := by
        have := Reads.tail (HH.out.row.alloc (.cells #[] 44)) (item_one _) 1 (by simp)
        rw [if_neg hc1, ← HN.out] at this
        simpa [Addr.add_lit, itemCells] using this
      go_wp2_with (at_builtin; refine wpList_append_reads _ rfl (.tmp 33) (.tmp 38) 28 rfl w1.heap.size 44 i0 _ 2 16 Try.underlying28 hi hz0 hz1 hz2 rfl (by decide) (.slice (some ⟨w1.heap.size, 0, none⟩) 0 0) 0 [] rfl hown0 _ (N - 1) _ rfl hr1 (by simp only [maxLen]; omega) (by omega) (by simp) ?_; intro v1 w2 hown1 hgr1; obtain ⟨A3, c3, rfl⟩ := own_form hown1; have ho2 : Only (fun _ => False) w1 w2 := only_grown ((Only.refl _ _).alloc _) hgr1 (fun k hk => .inr (own_block hown0 hk)); have H2 := HH.out.kept ho2 (fun _ h => h.elim); have c21 := H2.c1; have c22 := H2.c2; have f21 := H2.fr 1; have f22 := H2.fr 2)
      go_ret2
      obtain ⟨A', c', hend⟩ := H2.items (l' := l) hown1 (by omega) (by simp) (by have := HH.out.lo_; omega) (by omega)
      simp only [Nat.zero_add] at hend
      exact ⟨rfl, ⟨A', c', hend.lowered (low + 1)⟩, ((HO.trans (ho2.mono (fun _ h => h.elim))).setCell _ _ (.inl rfl)).setCell _ _ (.inl rfl)⟩
end Go.Proofs.Ythjcomekfiibnaa
