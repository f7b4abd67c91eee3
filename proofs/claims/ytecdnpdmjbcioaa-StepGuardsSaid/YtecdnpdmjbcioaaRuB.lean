/- The document's num and pred: Do, Test, set, Eval, Holds, All. -/
import Derived.Test.YtecdnpdmjbcioaaRuA
namespace Go.Proofs.Ytecdnpdmjbcioaa
open Go.RowKit
set_option linter.unusedVariables false
set_option linter.unusedSimpArgs false

theorem results_cell {P : Program} {fn : Func} {p : Tmp} {ty : TypeId} (h : fn.results = #[.cell p ty]) (tmps : Array Value) (w : World) (g : Nat) (t : TypeId) (cs : Array Value) (fr : Nat × Nat) (d : TypeDesc)
    (hp : tmps.getD p undef = .pointer (some ⟨g, 0, none⟩)) (hg : w.heap[g]? = some (.cells cs t fr))
    (hu : P.underlying ty = some d) (hd : (match d with | .struct _ | .array _ _ => true | _ => false) = true) (hi : (P.info? ty).map (·.size) = some cs.size) :
    (results fn tmps).run P w = .ok (.agg cs) w := by
  have hp' : tmps[p]?.getD undef = .pointer (some ⟨g, 0, none⟩) := by simpa using hp
  simp [results, h, hp', asAddr, run_loadVar_row w g t ty cs fr d hg hu hd hi]
theorem numInfo : (Try.prog.info? 106).map (·.size) = some 2 := by kernel_rfl
theorem tdiv_m1 (a : Int) : a.tdiv (-1) = -a := by rw [Int.tdiv_neg, Int.tdiv_one]
theorem tmod_m1 (a : Int) : a.tmod (-1) = 0 := by rw [Int.tmod_neg, Int.tmod_one]
theorem sub_wrap (a b : Int) : wrap64 (a - b) = wrap64 (a + wrap64 (-b)) := by unfold wrap64; omega
set_option maxHeartbeats 4000000 in
theorem rdo_any (op a b : Int) (w : World) :
    Calls Try.prog 74 #[.int .i64 op, .int .i64 a, .int .i64 b] w fun e w' => e = .returned (.agg #[.int .i64 (doNum op a b).1, .bool (doNum op a b).2]) ∧ Below w.heap.size w w' := by
  unfold doNum
  by_cases h1 : op = 1
  · subst h1
    go_enter Try.func74, Try.ntmps74
    go_wp2_with fail
    refine bodyPost_ret (v := .agg #[_, _]) (results_cell (p := 6) rfl _ _ w.heap.size 106 _ (0, 0) _ rfl (alloc_new w _) Try.underlying106 rfl numInfo) rfl ⟨?_, bl_alloc (Below.refl _ _) _⟩
    rfl
  by_cases h2 : op = 2
  · subst h2
    go_enter Try.func74, Try.ntmps74
    go_wp2_with fail
    refine bodyPost_ret (v := .agg #[_, _]) (results_cell (p := 6) rfl _ _ w.heap.size 106 _ (0, 0) _ rfl (alloc_new w _) Try.underlying106 rfl numInfo) rfl ⟨?_, bl_alloc (Below.refl _ _) _⟩
    first | rfl | (rw [← sub_wrap]; rfl) | (simp [sub_wrap])
  by_cases h3 : op = 3
  · subst h3
    go_enter Try.func74, Try.ntmps74
    go_wp2_with fail
    refine bodyPost_ret (v := .agg #[_, _]) (results_cell (p := 6) rfl _ _ w.heap.size 106 _ (0, 0) _ rfl (alloc_new w _) Try.underlying106 rfl numInfo) rfl ⟨?_, bl_alloc (Below.refl _ _) _⟩
    rfl
  have d1 : (op == 1) = false := by simpa using h1
  have d2 : (op == 2) = false := by simpa using h2
  have d3 : (op == 3) = false := by simpa using h3
  rw [if_neg h1, if_neg h2, if_neg h3]
  by_cases hz : b = 0
  · subst hz
    go_enter Try.func74, Try.ntmps74
    go_wp2_with fail
    all_goals
      refine bodyPost_ret (v := .agg #[_, _]) (results_cell (p := 6) rfl _ _ w.heap.size 106 _ (0, 0) _ rfl (alloc_new w _) Try.underlying106 rfl numInfo) rfl ⟨?_, bl_alloc (Below.refl _ _) _⟩
      simp
  have b0 : (b == 0) = false := by simpa using hz
  rw [if_neg hz]
  by_cases h4 : op = 4
  · subst h4
    by_cases hm : b = -1
    · subst hm
      go_enter Try.func74, Try.ntmps74
      go_wp2_with fail
      refine bodyPost_ret (v := .agg #[_, _]) (results_cell (p := 6) rfl _ _ w.heap.size 106 _ (0, 0) _ rfl (alloc_new w _) Try.underlying106 rfl numInfo) rfl ⟨?_, bl_alloc (Below.refl _ _) _⟩
      first | rfl | simp [tdiv_m1]
    · have bm : (b == -1) = false := by simpa using hm
      go_enter Try.func74, Try.ntmps74
      go_wp2_with fail
      refine bodyPost_ret (v := .agg #[_, _]) (results_cell (p := 6) rfl _ _ w.heap.size 106 _ (0, 0) _ rfl (alloc_new w _) Try.underlying106 rfl numInfo) rfl ⟨?_, bl_alloc (Below.refl _ _) _⟩
      first | rfl | simp
  by_cases h5 : op = 5
  · subst h5
    by_cases hm : b = -1
    · subst hm
      go_enter Try.func74, Try.ntmps74
      go_wp2_with fail
      refine bodyPost_ret (v := .agg #[_, _]) (results_cell (p := 6) rfl _ _ w.heap.size 106 _ (0, 0) _ rfl (alloc_new w _) Try.underlying106 rfl numInfo) rfl ⟨?_, bl_alloc (Below.refl _ _) _⟩
      first | rfl | simp [tmod_m1]
    · have bm : (b == -1) = false := by simpa using hm
      go_enter Try.func74, Try.ntmps74
      go_wp2_with fail
      refine bodyPost_ret (v := .agg #[_, _]) (results_cell (p := 6) rfl _ _ w.heap.size 106 _ (0, 0) _ rfl (alloc_new w _) Try.underlying106 rfl numInfo) rfl ⟨?_, bl_alloc (Below.refl _ _) _⟩
      first | rfl | simp [hz]
  · have d4 : (op == 4) = false := by simpa using h4
    have d5 : (op == 5) = false := by simpa using h5
    have e4 : (op != 4) = true := by simpa using h4
    have e5 : (op != 5) = true := by simpa using h5
    rw [if_neg h4, if_neg h5]
    go_enter Try.func74, Try.ntmps74
    go_wp2_with fail
    refine bodyPost_ret (v := .agg #[_, _]) (results_cell (p := 6) rfl _ _ w.heap.size 106 _ (0, 0) _ rfl (alloc_new w _) Try.underlying106 rfl numInfo) rfl ⟨?_, bl_alloc (Below.refl _ _) _⟩
    first | rfl | simp
set_option maxHeartbeats 1000000 in
theorem rtest_any (op a b : Int) (w : World) :
    Calls Try.prog 58 #[.int .i64 op, .int .i64 a, .int .i64 b] w fun e w' => e = .returned (.bool (testNum op a b)) ∧ w = w' := by
  unfold testNum
  by_cases h1 : op = 1
  · subst h1
    go_enter Try.func58, Try.ntmps58
    go_wp2_with fail
    go_ret
    exact ⟨by simp [BEq.beq], rfl⟩
  by_cases h2 : op = 2
  · subst h2
    go_enter Try.func58, Try.ntmps58
    go_wp2_with fail
    go_ret
    exact ⟨by simp [bne, BEq.beq], rfl⟩
  by_cases h3 : op = 3
  · subst h3
    go_enter Try.func58, Try.ntmps58
    go_wp2_with fail
    go_ret
    exact ⟨by simp, rfl⟩
  by_cases h4 : op = 4
  · subst h4
    go_enter Try.func58, Try.ntmps58
    go_wp2_with fail
    go_ret
    exact ⟨by simp, rfl⟩
  by_cases h5 : op = 5
  · subst h5
    go_enter Try.func58, Try.ntmps58
    go_wp2_with fail
    go_ret
    exact ⟨by simp, rfl⟩
  by_cases h6 : op = 6
  · subst h6
    go_enter Try.func58, Try.ntmps58
    go_wp2_with fail
    go_ret
    exact ⟨by simp, rfl⟩
  · have d1 : (op == 1) = false := by simpa using h1
    have d2 : (op == 2) = false := by simpa using h2
    have d3 : (op == 3) = false := by simpa using h3
    have d4 : (op == 4) = false := by simpa using h4
    have d5 : (op == 5) = false := by simpa using h5
    have d6 : (op == 6) = false := by simpa using h6
    rw [if_neg h1, if_neg h2, if_neg h3, if_neg h4, if_neg h5, if_neg h6]
    go_enter Try.func58, Try.ntmps58
    go_wp2_with fail
    go_ret
    exact ⟨rfl, rfl⟩

theorem rset_in {w0 w : World} {A : Option Addr} {n c : Nat} {ss : List (List Ev)} (h : SetsAt w0 A n ss) (hb : Below w0.heap.size w0 w) (at_ : Int) (hn : n ≤ 1000000) :
    Calls Try.prog 73 #[.slice A n c, .int .i64 at_] w fun e w' => ∃ A' c', e = .returned (.slice A' (setOf ss at_).length c') ∧ EvsAt w0 A' (setOf ss at_).length (setOf ss at_) ∧ w = w' := by
  have hl := h.len
  unfold setOf
  by_cases h1 : 0 ≤ at_
  · have d1 : ¬ at_ < 0 := by omega
    obtain ⟨k, rfl⟩ : ∃ k : Nat, at_ = k := ⟨at_.toNat, by omega⟩
    rw [if_pos h1, Int.toNat_natCast]
    by_cases h2 : k < n
    · obtain ⟨b, off, rfl, hbl, hc⟩ := h.cells (by omega)
      obtain ⟨A', c', c0, he⟩ := hc k h2
      have d2 : ¬ (n : Int) ≤ k := by omega
      replace c0 := (hb.cell (p := ⟨b, off + k, none⟩) hbl).trans c0
      have HE := Lib.hid he
      generalize (ss.getD k []) = s at *
      clear hc he h
      go_enter Try.func73, Try.ntmps73
      go_wp2_with fail
      go_ret
      exact ⟨A', ⟨c', rfl⟩, HE.out, rfl⟩
    · have d2 : (n : Int) ≤ k := by omega
      have e : ss.getD k [] = [] := by rw [List.getD_eq_getElem?_getD, List.getElem?_eq_none (by omega)]; rfl
      rw [e]
      clear h e
      go_enter Try.func73, Try.ntmps73
      go_wp2_with fail
      go_ret
      exact ⟨none, ⟨0, rfl⟩, ⟨rfl, fun h => absurd h (by decide)⟩, rfl⟩
  · have d1 : at_ < 0 := by omega
    rw [if_neg h1]
    clear h
    go_enter Try.func73, Try.ntmps73
    go_wp2_with fail
    go_ret
    exact ⟨none, ⟨0, rfl⟩, ⟨rfl, fun h => absurd h (by decide)⟩, rfl⟩
theorem rset_any {w : World} {A : Option Addr} {n c : Nat} {ss : List (List Ev)} (h : SetsAt w A n ss) (at_ : Int) (hn : n ≤ 1000000) :
    Calls Try.prog 73 #[.slice A n c, .int .i64 at_] w fun e w' => ∃ A' c', e = .returned (.slice A' (setOf ss at_).length c') ∧ EvsAt w A' (setOf ss at_).length (setOf ss at_) ∧ w = w' := rset_in h (Below.refl _ _) at_ hn
end Go.Proofs.Ytecdnpdmjbcioaa
