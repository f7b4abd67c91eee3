/- Chapter 8: the three ways in which a step adds a run. -/
import Derived.Test.YtecdnpdmjbcioaaSt9
namespace Go.Proofs.Ytecdnpdmjbcioaa
open Go.RowKit
set_option linter.unusedVariables false
set_option linter.unusedSimpArgs false

theorem Cop.blt {w w' : World} {X g c : Nat} (h : Cop w w' X g c) : X < w'.heap.size := block_lt h.x
/-- The run that is kept. -/
theorem arm_keep {w1 wa wb wc : World} (hb1 : Below w1.heap.size w1 wa) {X g c : Nat} (hc : Cop wa wb X g c) (hbc : Below wb.heap.size wb wc) (kb : Bool) (v : Value) (hv : v = .slice none 0 0) (Y : Nat) (hY : wc.heap.size = Y) :
    (wc.alloc (.cells #[.int .i64 0, .slice (some ⟨X, 0, none⟩) 1 1, .bool kb] 42)).ownsRow w1.heap.size 42 3 v 0 [] ∧ Reads (wc.alloc (.cells #[.int .i64 0, .slice (some ⟨X, 0, none⟩) 1 1, .bool kb] 42)) 3 (.slice (some ⟨Y, 0, none⟩) 1 1) 1 [.int .i64 0, .slice (some ⟨X, 0, none⟩) 1 1, .bool kb] ∧ w1.heap.size ≤ (wc.alloc (.cells #[.int .i64 0, .slice (some ⟨X, 0, none⟩) 1 1, .bool kb] 42)).heap.size ∧ ∀ v8 w8, w8.ownsRow w1.heap.size 42 3 v8 (0 + 1) ([] ++ [.int .i64 0, .slice (some ⟨X, 0, none⟩) 1 1, .bool kb]) → (wc.alloc (.cells #[.int .i64 0, .slice (some ⟨X, 0, none⟩) 1 1, .bool kb] 42)).grownBy w8 v.ownBlock → ∃ l, Ph w1 w8 v8 l true kb false false := by
  subst hv hY
  have hcc := hc.below (bl_alloc hbc (.cells #[.int .i64 0, .slice (some ⟨X, 0, none⟩) 1 1, .bool kb] 42))
  have hb := bl_then hb1 hcc.bel
  have hrun := hcc.run
  refine ⟨⟨rfl, .inl ⟨rfl, rfl⟩⟩, reads3 wc _ _ _ rfl rfl rfl, hb.size, fun v8 w8 hown hgr => ⟨_, ((Ph.start w1).below hb).keep kb hrun.1 hrun.2 hown hgr⟩⟩
/-- The run that takes the event at its cell. -/
theorem arm_add {w1 wa wb wc : World} {v : Value} {l : List (Int × Value × Bool)} {kB kb : Bool} (h : Ph w1 wa v l kB kb false false) {X g c : Nat} (hc : Cop wa wb X g c) (ho : Only (fun k => k = X) wb wc) (hx : ∃ A c2, wc.heap[X]? = some (.cells #[.slice A 2 c2] 22 (0, 0))) (Y : Nat) (hY : wc.heap.size = Y) :
    (wc.alloc (.cells #[.int .i64 0, .slice (some ⟨X, 0, none⟩) 1 1, .bool false] 42)).ownsRow w1.heap.size 42 3 v l.length (runCells l) ∧ Reads (wc.alloc (.cells #[.int .i64 0, .slice (some ⟨X, 0, none⟩) 1 1, .bool false] 42)) 3 (.slice (some ⟨Y, 0, none⟩) 1 1) 1 [.int .i64 0, .slice (some ⟨X, 0, none⟩) 1 1, .bool false] ∧ w1.heap.size ≤ (wc.alloc (.cells #[.int .i64 0, .slice (some ⟨X, 0, none⟩) 1 1, .bool false] 42)).heap.size ∧ ∀ v8 w8, w8.ownsRow w1.heap.size 42 3 v8 (l.length + 1) (runCells l ++ [.int .i64 0, .slice (some ⟨X, 0, none⟩) 1 1, .bool false]) → (wc.alloc (.cells #[.int .i64 0, .slice (some ⟨X, 0, none⟩) 1 1, .bool false] 42)).grownBy w8 v.ownBlock → ∃ l2, Ph w1 w8 v8 l2 kB kb true false := by
  subst hY
  have hlo := hc.lo
  have ho1 : Only (fun k => k = X) wa (wc.alloc (.cells #[.int .i64 0, .slice (some ⟨X, 0, none⟩) 1 1, .bool false] 42)) := ((Only.of_below hc.bel).trans ho).alloc _
  have h2 := h.only ho1 (fun k hk => by rw [hk]; exact hlo)
  have hX : X < wc.heap.size := Nat.lt_of_lt_of_le hc.blt ho.size
  have hb2 : Below wc.heap.size wc (wc.alloc (.cells #[.int .i64 0, .slice (some ⟨X, 0, none⟩) 1 1, .bool false] 42)) := bl_alloc (Below.refl _ _) _
  have hT : TwoAt (wc.alloc (.cells #[.int .i64 0, .slice (some ⟨X, 0, none⟩) 1 1, .bool false] 42)) X := by
    obtain ⟨A, c2, e⟩ := hx
    have e2 := (hb2.block _ hX).trans e
    exact ⟨⟨_, _, e2⟩, A, c2, box_of e2⟩
  exact ⟨h2.row, reads3 wc _ _ _ rfl rfl rfl, h2.bel.size, fun v8 w8 hown hgr => ⟨_, h2.add hT hown hgr⟩⟩
/-- The run that goes on to the next cell. -/
theorem arm_goes {w1 wa wb wc : World} {v : Value} {l : List (Int × Value × Bool)} {kB kb sB : Bool} (h : Ph w1 wa v l kB kb sB false) {X g c : Nat} (hc : Cop wa wb X g c) (hbc : Below wb.heap.size wb wc) (A : Option Addr) (m c2 : Nat) (Y : Nat) (hY : wc.heap.size = Y) :
    (wc.alloc (.cells #[.int .i64 1, .slice A m c2, .bool false] 42)).ownsRow w1.heap.size 42 3 v l.length (runCells l) ∧ Reads (wc.alloc (.cells #[.int .i64 1, .slice A m c2, .bool false] 42)) 3 (.slice (some ⟨Y, 0, none⟩) 1 1) 1 [.int .i64 1, .slice A m c2, .bool false] ∧ w1.heap.size ≤ (wc.alloc (.cells #[.int .i64 1, .slice A m c2, .bool false] 42)).heap.size ∧ ∀ v8 w8, w8.ownsRow w1.heap.size 42 3 v8 (l.length + 1) (runCells l ++ [.int .i64 1, .slice A m c2, .bool false]) → (wc.alloc (.cells #[.int .i64 1, .slice A m c2, .bool false] 42)).grownBy w8 v.ownBlock → ∃ l2, Ph w1 w8 v8 l2 kB kb sB true := by
  subst hY
  have h2 := h.below (bl_alloc (bl_then hc.bel hbc) (.cells #[.int .i64 1, .slice A m c2, .bool false] 42))
  exact ⟨h2.row, reads3 wc _ _ _ rfl rfl rfl, h2.bel.size, fun v8 w8 hown hgr => ⟨_, h2.goes _ hown hgr⟩⟩
/-- The row's base may lie lower. -/
theorem Ph.base {w w1 wx : World} {v : Value} {l : List (Int × Value × Bool)} {kB kb sB tB : Bool} (h : Ph w1 wx v l kB kb sB tB) (hb : Below w.heap.size w w1) : Ph w wx v l kB kb sB tB :=
  ⟨ownsRow_base h.row hb.size, bl_then hb h.bel, h.ats, h.kept, h.more⟩
end Go.Proofs.Ytecdnpdmjbcioaa
