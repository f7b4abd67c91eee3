/- Chapter 8: typed, rules that are none, guards. (Printed by st.py.) -/
import Derived.Test.YtecdnpdmjbcioaaPred
import Derived.Maps.OwnSet
import Derived.Deep.DeepCutAuto
import Derived.Deep.CutBlock
import Derived.Lib.Hide
import Derived.Laws.EntriesVeiled
namespace Go.Proofs.Ytecdnpdmjbcioaa
open Go.RowKit
set_option linter.unusedVariables false
set_option linter.unusedSimpArgs false

theorem typed_any (n : Int) (h0 : 0 ≤ n) (h8 : n < 8) (w : World) : Calls Try.prog 55 #[.int .i64 n] w fun e w' => e = .returned (.bool true) ∧ w' = w := by
  go_enter Try.func55, Try.ntmps55
  go_wp2_with fail
  go_ret
  exact ⟨rfl, rfl⟩
theorem may_nil (most more : Int) (w : World) : Calls Try.prog 56 #[.slice none 0 0, .int .i64 most, .int .i64 more] w fun e w' => e = .returned (.bool true) ∧ Below w.heap.size w w' := by
  have hb := bl_alloc (bl_alloc (Below.refl _ w) (.cells #[.int .i64 most] 3)) (.cells #[.int .i64 more] 3)
  go_enter Try.func56, Try.ntmps56
  go_wp2_with fail
  go_loopw [12] (fun i wr => i = .int .i64 0 ∧ Below w.heap.size w wr) (fun _ _ => 0)
  case atStart => exact ⟨rfl, hb⟩
  case round =>
    obtain ⟨rfl, hbf⟩ := hrel
    clear hb
    go_wp2_with fail
    go_ret
    exact ⟨rfl, hbf⟩
theorem all_nil (sv : Value) (w : World) : Calls Try.prog 52 #[.slice none 0 0, sv] w fun e w' => e = .returned (.bool true) ∧ w' = w := by
  go_enter Try.func52, Try.ntmps52
  go_wp2_with fail
  go_loopw [9] (fun i wr => i = .int .i64 0 ∧ wr = w) (fun _ _ => 0)
  case atStart => exact ⟨rfl, rfl⟩
  case round =>
    obtain ⟨rfl, rfl⟩ := hrel
    go_wp2_with fail
    go_ret
    exact ⟨rfl, rfl⟩
/-- A cell's guards: none, or one. -/
def Guards (w : World) (NA : Option Addr) (NN : Nat) (RV : Value) : Prop := NN = 0 ∨ (NN = 1 ∧ ∃ G, NA = some ⟨G, 0, none⟩ ∧ w.heap[G]? = some (.cells #[.int .i64 2, RV] 61 (0, 0)))
theorem Guards.below {w w' : World} {NA : Option Addr} {NN : Nat} {RV : Value} (h : Guards w NA NN RV) (hb : Below w.heap.size w w') : Guards w' NA NN RV := by
  rcases h with h | ⟨h, G, h1, h2⟩
  · exact .inl h
  · exact .inr ⟨h, G, h1, (hb.block _ (block_lt h2)).trans h2⟩
set_option maxHeartbeats 4000000 in
theorem index_r {w : World} {NA : Option Addr} {NN NC : Nat} {RA : Option Addr} {RN RC : Nat} (h : Guards w NA NN (.slice RA RN RC)) (c1 c2 : Value) (r : Bool)
    (hf : NN = 1 → ∀ W, Below w.heap.size w W → Calls Try.prog 54 #[.agg #[.int .i64 2, .slice RA RN RC], c1, c2] W fun e w' => e = .returned (.bool r) ∧ Below W.heap.size W w') :
    Calls Try.prog 67 #[.slice NA NN NC, .func (.func 54) #[] #[c1, c2]] w fun e w' => ∃ v : Int, e = .returned (.int .i64 v) ∧ decide (0 ≤ v) = (decide (NN = 1) && r) ∧ Below w.heap.size w w' := by
  have hbr := Below.refl w.heap.size w
  rcases h with rfl | ⟨rfl, G, rfl, hG⟩
  · clear hf
    go_enter Try.func67, Try.ntmps67
    go_wp2_with fail
    go_loopw [8] (fun i wr => i = .int .i64 0 ∧ Below w.heap.size w wr) (fun _ _ => 0)
    case atStart => exact ⟨rfl, hbr⟩
    case round =>
      obtain ⟨rfl, hbf⟩ := hrel
      go_wp2_with fail
      go_ret
      exact ⟨_, rfl, rfl, hbf⟩
  · have HF := Lib.hid (hf rfl)
    have HG := Lib.hid hG
    clear hf hG
    go_enter Try.func67, Try.ntmps67
    go_wp2_with fail
    go_loopw [8] (fun i wr => ∃ K : Nat, K ≤ 1 ∧ (K = 1 → r = false) ∧ i = .int .i64 K ∧ Below w.heap.size w wr) (fun i _ => 1 - (intOf i).toNat)
    case atStart => exact ⟨0, Nat.zero_le _, fun h => by omega, rfl, hbr⟩
    case round =>
      clear hbr
      obtain ⟨K, hK, hr, rfl, hb⟩ := hrel
      by_cases hK1 : K < 1
      · obtain rfl : K = 0 := by omega
        have hg := (hb.block _ (block_lt HG.out)).trans HG.out
        have x0 : wr.cell? ⟨G, 0, none⟩ = some (.int .i64 2) := cell_of_blk (cs := [.int .i64 2, .slice RA RN RC]) hg 0
        have x1 : wr.cell? ⟨G, 1, none⟩ = some (.slice RA RN RC) := cell_of_blk (cs := [.int .i64 2, .slice RA RN RC]) hg 1
        have HC := Lib.hid (HF.out _ hb)
        have HB := Lib.hid hb
        clear hg hb hr hK hK1
        go_wp2_with fail
        refine HC.out.mono ?_
        rintro e w' ⟨rfl, hb2⟩
        have HB2 := Lib.hid (bl_then HB.out hb2)
        clear hb2
        cases r
        · go_wp2_with fail
          go_roundw
          case rel => exact ⟨1, Nat.le_refl _, by simp, by simp, HB2.out⟩
          case measure => simp [intOf]
        · go_wp2_with fail
          go_ret
          exact ⟨_, rfl, rfl, HB2.out⟩
      · obtain rfl : r = false := hr (by omega)
        clear hr
        go_wp2_with fail
        go_ret
        exact ⟨_, rfl, rfl, hb⟩
theorem contains_r {w : World} {NA : Option Addr} {NN NC : Nat} {RA : Option Addr} {RN RC : Nat} (h : Guards w NA NN (.slice RA RN RC)) (c1 c2 : Value) (r : Bool)
    (hf : NN = 1 → ∀ W, Below w.heap.size w W → Calls Try.prog 54 #[.agg #[.int .i64 2, .slice RA RN RC], c1, c2] W fun e w' => e = .returned (.bool r) ∧ Below W.heap.size W w') :
    Calls Try.prog 50 #[.slice NA NN NC, .func (.func 54) #[] #[c1, c2]] w fun e w' => e = .returned (.bool (decide (NN = 1) && r)) ∧ Below w.heap.size w w' := by
  have HC := Lib.hid (index_r (NC := NC) h c1 c2 r hf)
  obtain ⟨o, ho⟩ : ∃ o, (decide (NN = 1) && r) = o := ⟨_, rfl⟩
  rw [ho] at HC ⊢
  clear hf h ho
  go_enter Try.func50, Try.ntmps50
  go_wp2_with fail
  refine HC.out.mono ?_
  rintro e w' ⟨v, rfl, hv, hb⟩
  have HV := Lib.hid hv
  have HB := Lib.hid hb
  clear hv hb
  go_wp2_with fail
  go_ret
  exact ⟨by rw [← HV.out]; rfl, HB.out⟩
set_option maxHeartbeats 4000000 in
theorem index_b {w : World} {NA : Option Addr} {NN NC : Nat} {RA : Option Addr} {RN RC : Nat} (h : Guards w NA NN (.slice RA RN RC)) (c1 c2 c3 : Value) (r : Bool)
    (hf : NN = 1 → ∀ W, Below w.heap.size w W → Calls Try.prog 51 #[.agg #[.int .i64 2, .slice RA RN RC], c1, c2, c3] W fun e w' => e = .returned (.bool r) ∧ Below W.heap.size W w') :
    Calls Try.prog 67 #[.slice NA NN NC, .func (.func 51) #[] #[c1, c2, c3]] w fun e w' => ∃ v : Int, e = .returned (.int .i64 v) ∧ decide (0 ≤ v) = (decide (NN = 1) && r) ∧ Below w.heap.size w w' := by
  have hbr := Below.refl w.heap.size w
  rcases h with rfl | ⟨rfl, G, rfl, hG⟩
  · clear hf
    go_enter Try.func67, Try.ntmps67
    go_wp2_with fail
    go_loopw [8] (fun i wr => i = .int .i64 0 ∧ Below w.heap.size w wr) (fun _ _ => 0)
    case atStart => exact ⟨rfl, hbr⟩
    case round =>
      obtain ⟨rfl, hbf⟩ := hrel
      go_wp2_with fail
      go_ret
      exact ⟨_, rfl, rfl, hbf⟩
  · have HF := Lib.hid (hf rfl)
    have HG := Lib.hid hG
    clear hf hG
    go_enter Try.func67, Try.ntmps67
    go_wp2_with fail
    go_loopw [8] (fun i wr => ∃ K : Nat, K ≤ 1 ∧ (K = 1 → r = false) ∧ i = .int .i64 K ∧ Below w.heap.size w wr) (fun i _ => 1 - (intOf i).toNat)
    case atStart => exact ⟨0, Nat.zero_le _, fun h => by omega, rfl, hbr⟩
    case round =>
      clear hbr
      obtain ⟨K, hK, hr, rfl, hb⟩ := hrel
      by_cases hK1 : K < 1
      · obtain rfl : K = 0 := by omega
        have hg := (hb.block _ (block_lt HG.out)).trans HG.out
        have x0 : wr.cell? ⟨G, 0, none⟩ = some (.int .i64 2) := cell_of_blk (cs := [.int .i64 2, .slice RA RN RC]) hg 0
        have x1 : wr.cell? ⟨G, 1, none⟩ = some (.slice RA RN RC) := cell_of_blk (cs := [.int .i64 2, .slice RA RN RC]) hg 1
        have HC := Lib.hid (HF.out _ hb)
        have HB := Lib.hid hb
        clear hg hb hr hK hK1
        go_wp2_with fail
        refine HC.out.mono ?_
        rintro e w' ⟨rfl, hb2⟩
        have HB2 := Lib.hid (bl_then HB.out hb2)
        clear hb2
        cases r
        · go_wp2_with fail
          go_roundw
          case rel => exact ⟨1, Nat.le_refl _, by simp, by simp, HB2.out⟩
          case measure => simp [intOf]
        · go_wp2_with fail
          go_ret
          exact ⟨_, rfl, rfl, HB2.out⟩
      · obtain rfl : r = false := hr (by omega)
        clear hr
        go_wp2_with fail
        go_ret
        exact ⟨_, rfl, rfl, hb⟩
theorem contains_b {w : World} {NA : Option Addr} {NN NC : Nat} {RA : Option Addr} {RN RC : Nat} (h : Guards w NA NN (.slice RA RN RC)) (c1 c2 c3 : Value) (r : Bool)
    (hf : NN = 1 → ∀ W, Below w.heap.size w W → Calls Try.prog 51 #[.agg #[.int .i64 2, .slice RA RN RC], c1, c2, c3] W fun e w' => e = .returned (.bool r) ∧ Below W.heap.size W w') :
    Calls Try.prog 50 #[.slice NA NN NC, .func (.func 51) #[] #[c1, c2, c3]] w fun e w' => e = .returned (.bool (decide (NN = 1) && r)) ∧ Below w.heap.size w w' := by
  have HC := Lib.hid (index_b (NC := NC) h c1 c2 c3 r hf)
  obtain ⟨o, ho⟩ : ∃ o, (decide (NN = 1) && r) = o := ⟨_, rfl⟩
  rw [ho] at HC ⊢
  clear hf h ho
  go_enter Try.func50, Try.ntmps50
  go_wp2_with fail
  refine HC.out.mono ?_
  rintro e w' ⟨v, rfl, hv, hb⟩
  have HV := Lib.hid hv
  have HB := Lib.hid hb
  clear hv hb
  go_wp2_with fail
  go_ret
  exact ⟨by rw [← HV.out]; rfl, HB.out⟩
end Go.Proofs.Ytecdnpdmjbcioaa
