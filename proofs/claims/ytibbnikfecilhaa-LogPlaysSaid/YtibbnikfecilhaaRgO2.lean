/- Chapter 19: the ring of sibyl/api.Out: Put, Drop, New. (Printed by rggen.py.) -/
import Derived.Test.YtibbnikfecilhaaRgO
namespace Go.Proofs.Ytibbnikfecilhaa
open Go.RowKit
set_option linter.unusedVariables false
set_option linter.unusedSimpArgs false

/-- A place, laid cell by cell. -/
def olaidp (w : World) (b o : Nat) (x : OutV) (t : Bool) : World := (olaid w b o x).setCell ⟨b, o + 4, none⟩ (.bool t)
theorem olaidp_eq (w : World) (b o : Nat) (x : OutV) (t : Bool) : olaidp w b o x t = puts w b o (oplace (x, t)) := rfl
theorem olaidp_only {S : Nat → Prop} {b : Nat} {w0 w : World} (hb : S b) (h : Only S w0 w) (o : Nat) (x : OutV) (t : Bool) : Only S w0 (olaidp w b o x t) := by
  rw [olaidp_eq]
  exact puts_only hb _ _ _ _ h
/-- Does a put go? -/
def ook (ps : List (OutV × Bool)) (low k : Int) : Bool := decide (low ≤ k) && decide (k - low < ps.length) && !(ps.getD (k % ps.length).toNat (OutV.zero, false)).2
def oput (ps : List (OutV × Bool)) (k : Int) (x : OutV) : List (OutV × Bool) := ps.set (k % ps.length).toNat (x, true)
set_option maxHeartbeats 2000000 in
theorem oput_any {w : World} {R B n : Nat} {low : Int} {ps : List (OutV × Bool)} (h : oAt w R B n low ps) (x : OutV) (k : Int) (hk : k ≤ 9223372036854775807) :
    Calls Try.prog 40 #[.pointer (some ⟨R, 0, none⟩), .int .i64 k, .agg x.cells.toArray] w fun e w' => e = .returned (.bool (ook ps low k)) ∧
      oAt w' R B n low (if ook ps low k = true then oput ps k x else ps) ∧ Only (fun b => b = B) w w' := by
  have n1 := h.n1
  obtain ⟨la, ln, lc⟩ := x
  have hb1 := bl_alloc (Below.refl _ w) (.cells #[.slice none 0 0, .slice la ln lc, .slice none 0 0, .slice none 0 0] 47)
  have hz := alloc_new w (.cells #[.slice none 0 0, .slice la ln lc, .slice none 0 0, .slice none 0 0] 47)
  have h1 := h.below hb1
  have hat := oat_any h1 k hk
  have ho1 : Only (fun b => b = B) w (w.alloc (.cells #[.slice none 0 0, .slice la ln lc, .slice none 0 0, .slice none 0 0] 47)) := (Only.refl _ w).alloc _
  change Calls Try.prog 40 #[.pointer (some ⟨R, 0, none⟩), .int .i64 k, .agg #[.slice none 0 0, .slice la ln lc, .slice none 0 0, .slice none 0 0]] w _
  unfold ook oput
  rw [h.len]
  by_cases g : low ≤ k ∧ k - low < n
  · rw [optr_yes g] at hat
    have m1 : 0 ≤ k % (n : Int) := Int.emod_nonneg _ (by omega)
    have m2 : k % (n : Int) < n := Int.emod_lt_of_pos _ (by omega)
    obtain ⟨i, hi⟩ : ∃ i, (k % (n : Int)).toNat = i := ⟨_, rfl⟩
    have hin : i < n := by omega
    rw [hi] at hat ⊢
    have ht := h1.pt i hin
    have dg : (decide (low ≤ k) && decide (k - low < n)) = true := by simp [g.1, g.2]
    rw [dg]
    have hst := fun j => (h1.drewN j).stored i hin ⟨la, ln, lc⟩ true
    have f0 := h1.fB
    have hBw := block_lt h.hB
    have hne : w.heap.size ≠ B := by omega
    cases hth : (ps.getD i (OutV.zero, false)).2
    · rw [hth] at ht
      have x0 : (w.alloc (.cells #[.slice none 0 0, .slice la ln lc, .slice none 0 0, .slice none 0 0] 47)).cell? ⟨w.heap.size, 0, none⟩ = some (.slice none 0 0) := cell_of_blk (cs := [.slice none 0 0, .slice la ln lc, .slice none 0 0, .slice none 0 0]) hz 0
      have x1 : (w.alloc (.cells #[.slice none 0 0, .slice la ln lc, .slice none 0 0, .slice none 0 0] 47)).cell? ⟨w.heap.size, 1, none⟩ = some (.slice la ln lc) := cell_of_blk (cs := [.slice none 0 0, .slice la ln lc, .slice none 0 0, .slice none 0 0]) hz 1
      have x2 : (w.alloc (.cells #[.slice none 0 0, .slice la ln lc, .slice none 0 0, .slice none 0 0] 47)).cell? ⟨w.heap.size, 2, none⟩ = some (.slice none 0 0) := cell_of_blk (cs := [.slice none 0 0, .slice la ln lc, .slice none 0 0, .slice none 0 0]) hz 2
      have x3 : (w.alloc (.cells #[.slice none 0 0, .slice la ln lc, .slice none 0 0, .slice none 0 0] 47)).cell? ⟨w.heap.size, 3, none⟩ = some (.slice none 0 0) := cell_of_blk (cs := [.slice none 0 0, .slice la ln lc, .slice none 0 0, .slice none 0 0]) hz 3
      have H := Lib.hid hat
      have HST := Lib.hid hst
      have HO := Lib.hid ho1
      have F0 := Lib.hid f0
      obtain ⟨u0, z0⟩ : ∃ u, (w.alloc (.cells #[.slice none 0 0, .slice la ln lc, .slice none 0 0, .slice none 0 0] 47)).cell? ⟨B, i * 5, none⟩ = some u := ⟨_, (h1.px i hin 0 (by decide)).trans rfl⟩
      obtain ⟨u1, z1⟩ : ∃ u, (w.alloc (.cells #[.slice none 0 0, .slice la ln lc, .slice none 0 0, .slice none 0 0] 47)).cell? ⟨B, i * 5 + 1, none⟩ = some u := ⟨_, (h1.px i hin 1 (by decide)).trans rfl⟩
      obtain ⟨u2, z2⟩ : ∃ u, (w.alloc (.cells #[.slice none 0 0, .slice la ln lc, .slice none 0 0, .slice none 0 0] 47)).cell? ⟨B, i * 5 + 2, none⟩ = some u := ⟨_, (h1.px i hin 2 (by decide)).trans rfl⟩
      obtain ⟨u3, z3⟩ : ∃ u, (w.alloc (.cells #[.slice none 0 0, .slice la ln lc, .slice none 0 0, .slice none 0 0] 47)).cell? ⟨B, i * 5 + 3, none⟩ = some u := ⟨_, (h1.px i hin 3 (by decide)).trans rfl⟩
      have y0 := F0.out (i * 5)
      have y1 := F0.out (i * 5 + 1)
      have y2 := F0.out (i * 5 + 2)
      have y3 := F0.out (i * 5 + 3)
      have y4 := F0.out (i * 5 + 4)
      clear hat m1 m2 hi h hb1 h1 ho1 hst f0 hth dg g hz
      go_enter Try.func40, Try.ntmps40
      go_wp2_with (go_at_call 58; refine H.out.mono ?_; rintro e w' ⟨rfl, j, rfl⟩)
      go_ret
      exact ⟨rfl, HST.out j, olaidp_only (S := fun b => b = B) (b := B) (w := World.drewN _ j) rfl (HO.out.drewN j) (i * 5) ⟨la, ln, lc⟩ true⟩
    · rw [hth] at ht
      have H := Lib.hid hat
      have H1 := Lib.hid h1
      have HO := Lib.hid ho1
      clear hat m1 m2 hi h hb1 h1 ho1 hst f0 hth dg g hz
      go_enter Try.func40, Try.ntmps40
      go_wp2_with (go_at_call 58; refine H.out.mono ?_; rintro e w' ⟨rfl, j, rfl⟩)
      go_ret
      exact ⟨rfl, H1.out.drewN j, HO.out.drewN j⟩
  · rw [optr_no g] at hat
    have dg : (decide (low ≤ k) && decide (k - low < n)) = false := by
      simp only [Bool.and_eq_false_iff, decide_eq_false_iff_not]
      omega
    rw [dg]
    have H := Lib.hid hat
    have H1 := Lib.hid h1
    have HO := Lib.hid ho1
    clear hat h hb1 h1 ho1 dg g hz
    go_enter Try.func40, Try.ntmps40
    go_wp2_with (go_at_call 58; refine H.out.mono ?_; rintro e w' ⟨rfl, j, rfl⟩)
    go_ret
    exact ⟨rfl, H1.out.drewN j, HO.out.drewN j⟩
end Go.Proofs.Ytibbnikfecilhaa
