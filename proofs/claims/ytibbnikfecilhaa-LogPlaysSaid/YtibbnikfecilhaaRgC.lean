/- Chapter 19: the ring of sibyl/api.Command in memory. (Printed by rggen.py.) -/
import Derived.Test.YtibbnikfecilhaaStride
import Derived.Test.YtibbnikfecilhaaSl
import Derived.Test.YtibbnikfecilhaaProg
import Derived.Deep.QuietTactic
import Derived.BigQuiet
import Derived.Laws.Rows
import Derived.Deep.OwnRows
import Derived.Deep.RegionLaw
import Derived.Deep.RegionHeld3
namespace Go.Proofs.Ytibbnikfecilhaa
open Go.RowKit
set_option linter.unusedVariables false
set_option linter.unusedSimpArgs false

/-- A command, but for what no law fills in. -/
structure CmdV where
  kind : Int
  n : Int
def CmdV.cells (c : CmdV) : List Value := [.int .i64 c.kind, .int .i64 0, .int .i64 c.n, .int .i64 0, .int .i64 0, .int .i64 0, .int .i64 0, .int .i64 0, .int .i64 0, .int .i64 0, .int .i64 0, .slice none 0 0, .int .i64 0, .bool false]
def CmdV.zero : CmdV := ⟨0, 0⟩

theorem CmdV.len (x : CmdV) : x.cells.length = 14 := rfl
def cplace (p : CmdV × Bool) : List Value := p.1.cells ++ [.bool p.2]
theorem cplace_len (p : CmdV × Bool) : (cplace p).length = 15 := rfl
def ccells (ps : List (CmdV × Bool)) : List Value := ps.flatMap cplace
theorem ccells_len (ps : List (CmdV × Bool)) : (ccells ps).length = ps.length * 15 := flat_len cplace 15 cplace_len ps
theorem ccells_x (ps : List (CmdV × Bool)) (i : Nat) (hi : i < ps.length) (j : Nat) (hj : j < 14) : (ccells ps)[i * 15 + j]? = (ps.getD i (CmdV.zero, false)).1.cells[j]? := by
  unfold ccells
  rw [flat_at cplace 15 cplace_len (CmdV.zero, false) ps i hi j (by omega), cplace, List.getElem?_append_left (by rw [CmdV.len]; exact hj)]
theorem ccells_t (ps : List (CmdV × Bool)) (i : Nat) (hi : i < ps.length) : (ccells ps)[i * 15 + 14]? = some (.bool (ps.getD i (CmdV.zero, false)).2) := by
  unfold ccells
  rw [flat_at cplace 15 cplace_len (CmdV.zero, false) ps i hi 14 (by omega), cplace, List.getElem?_append_right (by rw [CmdV.len]; exact Nat.le_refl _), CmdV.len]
  rfl
/-- One of these, laid cell by cell. -/
def claid (w : World) (b o : Nat) (x : CmdV) : World := (((((((((((((w.setCell ⟨b, o, none⟩ (.int .i64 x.kind)).setCell ⟨b, o + 1, none⟩ (.int .i64 0)).setCell ⟨b, o + 2, none⟩ (.int .i64 x.n)).setCell ⟨b, o + 3, none⟩ (.int .i64 0)).setCell ⟨b, o + 4, none⟩ (.int .i64 0)).setCell ⟨b, o + 5, none⟩ (.int .i64 0)).setCell ⟨b, o + 6, none⟩ (.int .i64 0)).setCell ⟨b, o + 7, none⟩ (.int .i64 0)).setCell ⟨b, o + 8, none⟩ (.int .i64 0)).setCell ⟨b, o + 9, none⟩ (.int .i64 0)).setCell ⟨b, o + 10, none⟩ (.int .i64 0)).setCell ⟨b, o + 11, none⟩ (.slice none 0 0)).setCell ⟨b, o + 12, none⟩ (.int .i64 0)).setCell ⟨b, o + 13, none⟩ (.bool false)
theorem claid_eq (w : World) (b o : Nat) (x : CmdV) : claid w b o x = puts w b o x.cells := rfl
theorem claid_same {w : World} {b : Nat} {cs : List Value} {t : TypeId} {fr : Nat × Nat} (h : w.heap[b]? = some (.cells cs.toArray t fr)) (hl : cs.length = 14) (x : CmdV) : (claid w b 0 x).heap[b]? = some (.cells x.cells.toArray t fr) := by
  have := puts_same x.cells w cs 0 h
  rwa [putL_all (by rw [hl]; rfl), ← claid_eq] at this
theorem claid_new {S : Nat → Prop} {b : Nat} {w0 w : World} (hb : w0.heap.size ≤ b) (h : Only S w0 w) (o : Nat) (x : CmdV) : Only S w0 (claid w b o x) := by
  rw [claid_eq]
  exact puts_new hb _ _ _ h
theorem cresults {P : Program} {fn : Func} {p u : Tmp} {ty : TypeId} (h : fn.results = #[.cell p ty, .tmp u]) (tmps : Array Value) (w : World) (g : Nat) (t : TypeId) (cs : Array Value) (fr : Nat × Nat) (d : TypeDesc)
    (hp : tmps.getD p undef = .pointer (some ⟨g, 0, none⟩)) (hg : w.heap[g]? = some (.cells cs t fr))
    (hu : P.underlying ty = some d) (hd : (match d with | .struct _ | .array _ _ => true | _ => false) = true) (hi : (P.info? ty).map (·.size) = some cs.size) :
    (results fn tmps).run P w = .ok (.tuple #[.agg cs, tmps.getD u undef]) w := by
  have hp' : tmps[p]?.getD undef = .pointer (some ⟨g, 0, none⟩) := by simpa using hp
  simp [results, h, hp', asAddr, run_loadVar_row w g t ty cs fr d hg hu hd hi]
/-- A ring in memory: its struct at block R, its places at block B. -/
structure cAt (w : World) (R B n : Nat) (low : Int) (ps : List (CmdV × Bool)) : Prop where
  hR : w.heap[R]? = some (.cells #[.slice (some ⟨B, 0, none⟩) n n, .int .i64 low] 117 (0, 0))
  hB : w.heap[B]? = some (.cells (ccells ps).toArray 124 (0, 0))
  ne : R ≠ B
  len : ps.length = n
  n1 : 1 ≤ n
  n2 : n ≤ 4096
  low0 : 0 ≤ low
  low1 : low ≤ 4611686018427387904
section
variable {w : World} {R B n : Nat} {low : Int} {ps : List (CmdV × Bool)} (h : cAt w R B n low ps)
include h
theorem cAt.c0 : w.cell? ⟨R, 0, none⟩ = some (.slice (some ⟨B, 0, none⟩) n n) := by
  simp [World.cell?, h.hR]
theorem cAt.c1 : w.cell? ⟨R, 1, none⟩ = some (.int .i64 low) := by
  simp [World.cell?, h.hR]
theorem cAt.px (i : Nat) (hi : i < n) (j : Nat) (hj : j < 14) : w.cell? ⟨B, i * 15 + j, none⟩ = (ps.getD i (CmdV.zero, false)).1.cells[j]? := by
  have := ccells_x ps i (by rw [h.len]; exact hi) j hj
  simpa [World.cell?, h.hB] using this
theorem cAt.pt (i : Nat) (hi : i < n) : w.cell? ⟨B, i * 15 + 14, none⟩ = some (.bool (ps.getD i (CmdV.zero, false)).2) := by
  have := ccells_t ps i (by rw [h.len]; exact hi)
  simpa [World.cell?, h.hB] using this
theorem cAt.fR (i : Nat) : w.frozen? ⟨R, i, none⟩ = false := by
  simp [World.frozen?, h.hR]
theorem cAt.fB (i : Nat) : w.frozen? ⟨B, i, none⟩ = false := by
  simp [World.frozen?, h.hB]
theorem cAt.drewN (j : Nat) : cAt (w.drewN j) R B n low ps := ⟨h.hR, h.hB, h.ne, h.len, h.n1, h.n2, h.low0, h.low1⟩
theorem cAt.kept {w' : World} {S : Nat → Prop} (k : Only S w w') (hR : ¬ S R) (hB : ¬ S B) : cAt w' R B n low ps :=
  ⟨k.block h.hR hR, k.block h.hB hB, h.ne, h.len, h.n1, h.n2, h.low0, h.low1⟩
theorem cAt.below {w' : World} (k : Below w.heap.size w w') : cAt w' R B n low ps := h.kept (Only.of_below (S := fun _ => False) k) id id
theorem cAt.stored (i : Nat) (hi : i < n) (x : CmdV) (b : Bool) : cAt (puts w B (i * 15) (cplace (x, b))) R B n low (ps.set i (x, b)) := by
  refine ⟨?_, ?_, h.ne, by simpa using h.len, h.n1, h.n2, h.low0, h.low1⟩
  · exact (puts_only (S := fun k => k = B) rfl _ _ _ _ (Only.refl _ w)).block h.hR h.ne
  · have := puts_same (cplace (x, b)) w _ (i * 15) h.hB
    unfold ccells at this
    rwa [putL_flat cplace 15 (by decide) cplace_len (CmdV.zero, false) ps i (by rw [h.len]; exact hi)] at this
theorem cAt.lowered (l : Int) (h0 : 0 ≤ l) (h1 : l ≤ 4611686018427387904) : cAt (w.setCell ⟨R, 1, none⟩ (.int .i64 l)) R B n l ps :=
  ⟨by have := setCell_same (i := 1) (cs := [.slice (some ⟨B, 0, none⟩) n n, .int .i64 low]) h.hR (.int .i64 l); simpa using this, setCell_other h.hB (Ne.symm h.ne) _, h.ne, h.len, h.n1, h.n2, h0, h1⟩
end
/-- Where a number's place lies. -/
def cptr (B n : Nat) (low k : Int) : Option Addr := if low ≤ k ∧ k - low < n then some ⟨B, (k % n).toNat * 15, none⟩ else none
theorem cptr_yes {B n : Nat} {low k : Int} (h : low ≤ k ∧ k - low < n) : cptr B n low k = some ⟨B, (k % n).toNat * 15, none⟩ := if_pos h
theorem cptr_no {B n : Nat} {low k : Int} (h : ¬ (low ≤ k ∧ k - low < n)) : cptr B n low k = none := if_neg h
theorem cat_nil (k : Int) (w : World) :
    Calls Try.prog 57 #[.pointer none, .int .i64 k] w fun e w' => e = .returned (.pointer none) ∧ ∃ n, w' = w.drewN n := by
  go_enter Try.func57, Try.ntmps57
  go_wp2_with fail
  go_quiet (fail)
  go_wp2
  go_ret
  exact ⟨rfl, _, rfl⟩
set_option maxHeartbeats 1000000 in
theorem cat_any {w : World} {R B n : Nat} {low : Int} {ps : List (CmdV × Bool)} (h : cAt w R B n low ps) (k : Int) (hk : k ≤ 9223372036854775807) :
    Calls Try.prog 57 #[.pointer (some ⟨R, 0, none⟩), .int .i64 k] w fun e w' => e = .returned (.pointer (cptr B n low k)) ∧ ∃ n, w' = w.drewN n := by
  have l0 := h.low0
  have n1 := h.n1
  have n2 := h.n2
  have hc0 := h.c0
  have hc1 := h.c1
  have hn : 1 ≤ (n : Int) := by omega
  have hn2 : (n : Int) ≤ 4096 := by omega
  clear h
  by_cases h1 : low ≤ k
  · have d1 : decide (k < low) = false := by simp; omega
    by_cases h2 : k - low < n
    · rw [cptr_yes ⟨h1, h2⟩]
      have d2 : decide ((n : Int) ≤ k - low) = false := by simp; omega
      have hz : ((n : Int) == 0) = false := by simp; omega
      have m1 : 0 ≤ k % (n : Int) := Int.emod_nonneg _ (by omega)
      have m2 : k % (n : Int) < n := Int.emod_lt_of_pos _ (by omega)
      go_enter Try.func57, Try.ntmps57
      go_wp2_with fail
      go_quiet (fail)
      go_wp2_with fail
      go_quiet (fail)
      go_wp2
      go_ret
      exact ⟨by simp, _, World.drewN_drewN ..⟩
    · rw [cptr_no (fun g => h2 g.2)]
      have d2 : decide ((n : Int) ≤ k - low) = true := by simp; omega
      go_enter Try.func57, Try.ntmps57
      go_wp2_with fail
      go_quiet (fail)
      go_wp2
      go_ret
      exact ⟨rfl, _, rfl⟩
  · rw [cptr_no (fun g => h1 g.1)]
    have d1 : decide (k < low) = true := by simp; omega
    go_enter Try.func57, Try.ntmps57
    go_wp2_with fail
    go_quiet (fail)
    go_wp2
    go_ret
    exact ⟨rfl, _, rfl⟩
theorem clow_any {w : World} {R B n : Nat} {low : Int} {ps : List (CmdV × Bool)} (h : cAt w R B n low ps) :
    Calls Try.prog 46 #[.pointer (some ⟨R, 0, none⟩)] w fun e w' => e = .returned (.int .i64 low) ∧ w' = w := by
  have c1 := h.c1
  go_enter Try.func46, Try.ntmps46
  go_wp2
  go_ret
  exact ⟨rfl, rfl⟩
/-- What is at a place. -/
def cget (ps : List (CmdV × Bool)) (low k : Int) : CmdV × Bool := if low ≤ k ∧ k - low < ps.length then ps.getD (k % ps.length).toNat (CmdV.zero, false) else (CmdV.zero, false)
theorem cinfo : (Try.prog.info? 39).map (·.size) = some 14 := by kernel_rfl
set_option maxHeartbeats 2000000 in
theorem cget_any {w : World} {R B n : Nat} {low : Int} {ps : List (CmdV × Bool)} (h : cAt w R B n low ps) (k : Int) (hk : k ≤ 9223372036854775807) :
    Calls Try.prog 47 #[.pointer (some ⟨R, 0, none⟩), .int .i64 k] w fun e w' => e = .returned (.tuple #[.agg (cget ps low k).1.cells.toArray, .bool (cget ps low k).2]) ∧ Below w.heap.size w w' := by
  have n1 := h.n1
  have hb1 := bl_alloc (Below.refl _ w) (.cells #[.int .i64 0, .int .i64 0, .int .i64 0, .int .i64 0, .int .i64 0, .int .i64 0, .int .i64 0, .int .i64 0, .int .i64 0, .int .i64 0, .int .i64 0, .slice none 0 0, .int .i64 0, .bool false] 39)
  have hz := alloc_new w (.cells #[.int .i64 0, .int .i64 0, .int .i64 0, .int .i64 0, .int .i64 0, .int .i64 0, .int .i64 0, .int .i64 0, .int .i64 0, .int .i64 0, .int .i64 0, .slice none 0 0, .int .i64 0, .bool false] 39)
  have hat := cat_any (h.below hb1) k hk
  unfold cget
  rw [h.len]
  by_cases g : low ≤ k ∧ k - low < n
  · rw [if_pos g]
    rw [cptr_yes g] at hat
    have m1 : 0 ≤ k % (n : Int) := Int.emod_nonneg _ (by omega)
    have m2 : k % (n : Int) < n := Int.emod_lt_of_pos _ (by omega)
    obtain ⟨i, hi⟩ : ∃ i, (k % (n : Int)).toNat = i := ⟨_, rfl⟩
    have hin : i < n := by omega
    rw [hi] at hat ⊢
    have hp := (h.below hb1).px i hin
    have ht := (h.below hb1).pt i hin
    generalize ps.getD i (CmdV.zero, false) = y at *
    obtain ⟨x, there⟩ := y
    obtain ⟨kd, nn⟩ := x
    dsimp only at hp ht ⊢
    have x0 := hp 0 (by decide)
    have x1 := hp 1 (by decide)
    have x2 := hp 2 (by decide)
    have x3 := hp 3 (by decide)
    have x4 := hp 4 (by decide)
    have x5 := hp 5 (by decide)
    have x6 := hp 6 (by decide)
    have x7 := hp 7 (by decide)
    have x8 := hp 8 (by decide)
    have x9 := hp 9 (by decide)
    have x10 := hp 10 (by decide)
    have x11 := hp 11 (by decide)
    have x12 := hp 12 (by decide)
    have x13 := hp 13 (by decide)
    simp only [CmdV.cells, List.getElem?_cons_zero, List.getElem?_cons_succ, Nat.add_zero] at x0 x1 x2 x3 x4 x5 x6 x7 x8 x9 x10 x11 x12 x13
    have H := Lib.hid hat
    have HB := Lib.hid hb1
    clear hat m1 m2 hi hp h hb1
    go_enter Try.func47, Try.ntmps47
    go_wp2_with (go_at_call 57; refine H.out.mono ?_; rintro e w' ⟨rfl, j, rfl⟩)
    go_region_law (fail)
    all_goals
      go_wp2_with fail
      refine bodyPost_ret (v := .tuple #[.agg (CmdV.cells ⟨kd, nn⟩).toArray, .bool there]) ?_ rfl ⟨rfl, ?_⟩
      · exact cresults (p := 4) (u := 5) rfl _ _ w.heap.size 39 (CmdV.cells ⟨kd, nn⟩).toArray (0, 0) _ rfl (claid_same (cs := [.int .i64 0, .int .i64 0, .int .i64 0, .int .i64 0, .int .i64 0, .int .i64 0, .int .i64 0, .int .i64 0, .int .i64 0, .int .i64 0, .int .i64 0, .slice none 0 0, .int .i64 0, .bool false]) (w := World.drewN _ (j + 1)) hz rfl ⟨kd, nn⟩) Try.underlying39 rfl cinfo
      · exact Only.below (claid_new (S := fun _ => False) (Nat.le_refl _) (Only.of_below (bl_drewN HB.out (j + 1))) 0 ⟨kd, nn⟩) (Nat.le_refl _) (fun _ h => h.elim)
  · rw [if_neg g]
    rw [cptr_no g] at hat
    have H := Lib.hid hat
    have HB := Lib.hid hb1
    clear hat h hb1
    go_enter Try.func47, Try.ntmps47
    go_wp2_with (go_at_call 57; refine H.out.mono ?_; rintro e w' ⟨rfl, j, rfl⟩)
    refine bodyPost_ret (v := .tuple #[.agg (CmdV.cells CmdV.zero).toArray, .bool false]) ?_ rfl ⟨rfl, ?_⟩
    · exact cresults (p := 4) (u := 5) rfl _ _ w.heap.size 39 (CmdV.cells CmdV.zero).toArray (0, 0) _ rfl (alloc_old (claid_same (cs := [.int .i64 0, .int .i64 0, .int .i64 0, .int .i64 0, .int .i64 0, .int .i64 0, .int .i64 0, .int .i64 0, .int .i64 0, .int .i64 0, .int .i64 0, .slice none 0 0, .int .i64 0, .bool false]) (w := World.drewN _ j) hz rfl CmdV.zero) _) Try.underlying39 rfl cinfo
    · exact bl_alloc (Only.below (claid_new (S := fun _ => False) (Nat.le_refl _) (Only.of_below (bl_drewN HB.out j)) 0 CmdV.zero) (Nat.le_refl _) (fun _ h => h.elim)) _
end Go.Proofs.Ytibbnikfecilhaa
