/- Chapter 19: the ring of sibyl/api.Out in memory. (Printed by rggen.py.) -/
import Derived.Test.YtibbnikfecilhaaStride
import Derived.Test.YtibbnikfecilhaaSl
import Derived.Test.YtibbnikfecilhaaProg
import Derived.Deep.QuietTactic
import Derived.BigQuiet
import Derived.Laws.Rows
import Derived.Deep.OwnRows
import Derived.Deep.RegionLaw
import Derived.Deep.RegionHeld3
namespace Go.Proofs.Ytibbnikfecilhaa
open Go.RowKit
set_option linter.unusedVariables false
set_option linter.unusedSimpArgs false

/-- What a worker told, but for what no law fills in: its row of numbers. -/
structure OutV where
  a : Option Addr
  n : Nat
  c : Nat
def OutV.cells (o : OutV) : List Value := [.slice none 0 0, .slice o.a o.n o.c, .slice none 0 0, .slice none 0 0]
def OutV.zero : OutV := ⟨none, 0, 0⟩

theorem OutV.len (x : OutV) : x.cells.length = 4 := rfl
def oplace (p : OutV × Bool) : List Value := p.1.cells ++ [.bool p.2]
theorem oplace_len (p : OutV × Bool) : (oplace p).length = 5 := rfl
def ocells (ps : List (OutV × Bool)) : List Value := ps.flatMap oplace
theorem ocells_len (ps : List (OutV × Bool)) : (ocells ps).length = ps.length * 5 := flat_len oplace 5 oplace_len ps
theorem ocells_x (ps : List (OutV × Bool)) (i : Nat) (hi : i < ps.length) (j : Nat) (hj : j < 4) : (ocells ps)[i * 5 + j]? = (ps.getD i (OutV.zero, false)).1.cells[j]? := by
  unfold ocells
  rw [flat_at oplace 5 oplace_len (OutV.zero, false) ps i hi j (by omega), oplace, List.getElem?_append_left (by rw [OutV.len]; exact hj)]
theorem ocells_t (ps : List (OutV × Bool)) (i : Nat) (hi : i < ps.length) : (ocells ps)[i * 5 + 4]? = some (.bool (ps.getD i (OutV.zero, false)).2) := by
  unfold ocells
  rw [flat_at oplace 5 oplace_len (OutV.zero, false) ps i hi 4 (by omega), oplace, List.getElem?_append_right (by rw [OutV.len]; exact Nat.le_refl _), OutV.len]
  rfl
/-- One of these, laid cell by cell. -/
def olaid (w : World) (b o : Nat) (x : OutV) : World := (((w.setCell ⟨b, o, none⟩ (.slice none 0 0)).setCell ⟨b, o + 1, none⟩ (.slice x.a x.n x.c)).setCell ⟨b, o + 2, none⟩ (.slice none 0 0)).setCell ⟨b, o + 3, none⟩ (.slice none 0 0)
theorem olaid_eq (w : World) (b o : Nat) (x : OutV) : olaid w b o x = puts w b o x.cells := rfl
theorem olaid_same {w : World} {b : Nat} {cs : List Value} {t : TypeId} {fr : Nat × Nat} (h : w.heap[b]? = some (.cells cs.toArray t fr)) (hl : cs.length = 4) (x : OutV) : (olaid w b 0 x).heap[b]? = some (.cells x.cells.toArray t fr) := by
  have := puts_same x.cells w cs 0 h
  rwa [putL_all (by rw [hl]; rfl), ← olaid_eq] at this
theorem olaid_new {S : Nat → Prop} {b : Nat} {w0 w : World} (hb : w0.heap.size ≤ b) (h : Only S w0 w) (o : Nat) (x : OutV) : Only S w0 (olaid w b o x) := by
  rw [olaid_eq]
  exact puts_new hb _ _ _ h
theorem oresults {P : Program} {fn : Func} {p u : Tmp} {ty : TypeId} (h : fn.results = #[.cell p ty, .tmp u]) (tmps : Array Value) (w : World) (g : Nat) (t : TypeId) (cs : Array Value) (fr : Nat × Nat) (d : TypeDesc)
    (hp : tmps.getD p undef = .pointer (some ⟨g, 0, none⟩)) (hg : w.heap[g]? = some (.cells cs t fr))
    (hu : P.underlying ty = some d) (hd : (match d with | .struct _ | .array _ _ => true | _ => false) = true) (hi : (P.info? ty).map (·.size) = some cs.size) :
    (results fn tmps).run P w = .ok (.tuple #[.agg cs, tmps.getD u undef]) w := by
  have hp' : tmps[p]?.getD undef = .pointer (some ⟨g, 0, none⟩) := by simpa using hp
  simp [results, h, hp', asAddr, run_loadVar_row w g t ty cs fr d hg hu hd hi]
/-- A ring in memory: its struct at block R, its places at block B. -/
structure oAt (w : World) (R B n : Nat) (low : Int) (ps : List (OutV × Bool)) : Prop where
  hR : w.heap[R]? = some (.cells #[.slice (some ⟨B, 0, none⟩) n n, .int .i64 low] 120 (0, 0))
  hB : w.heap[B]? = some (.cells (ocells ps).toArray 128 (0, 0))
  ne : R ≠ B
  len : ps.length = n
  n1 : 1 ≤ n
  n2 : n ≤ 4096
  low0 : 0 ≤ low
  low1 : low ≤ 4611686018427387904
section
variable {w : World} {R B n : Nat} {low : Int} {ps : List (OutV × Bool)} (h : oAt w R B n low ps)
include h
theorem oAt.c0 : w.cell? ⟨R, 0, none⟩ = some (.slice (some ⟨B, 0, none⟩) n n) := by
  simp [World.cell?, h.hR]
theorem oAt.c1 : w.cell? ⟨R, 1, none⟩ = some (.int .i64 low) := by
  simp [World.cell?, h.hR]
theorem oAt.px (i : Nat) (hi : i < n) (j : Nat) (hj : j < 4) : w.cell? ⟨B, i * 5 + j, none⟩ = (ps.getD i (OutV.zero, false)).1.cells[j]? := by
  have := ocells_x ps i (by rw [h.len]; exact hi) j hj
  simpa [World.cell?, h.hB] using this
theorem oAt.pt (i : Nat) (hi : i < n) : w.cell? ⟨B, i * 5 + 4, none⟩ = some (.bool (ps.getD i (OutV.zero, false)).2) := by
  have := ocells_t ps i (by rw [h.len]; exact hi)
  simpa [World.cell?, h.hB] using this
theorem oAt.fR (i : Nat) : w.frozen? ⟨R, i, none⟩ = false := by
  simp [World.frozen?, h.hR]
theorem oAt.fB (i : Nat) : w.frozen? ⟨B, i, none⟩ = false := by
  simp [World.frozen?, h.hB]
theorem oAt.drewN (j : Nat) : oAt (w.drewN j) R B n low ps := ⟨h.hR, h.hB, h.ne, h.len, h.n1, h.n2, h.low0, h.low1⟩
theorem oAt.kept {w' : World} {S : Nat → Prop} (k : Only S w w') (hR : ¬ S R) (hB : ¬ S B) : oAt w' R B n low ps :=
  ⟨k.block h.hR hR, k.block h.hB hB, h.ne, h.len, h.n1, h.n2, h.low0, h.low1⟩
theorem oAt.below {w' : World} (k : Below w.heap.size w w') : oAt w' R B n low ps := h.kept (Only.of_below (S := fun _ => False) k) id id
theorem oAt.stored (i : Nat) (hi : i < n) (x : OutV) (b : Bool) : oAt (puts w B (i * 5) (oplace (x, b))) R B n low (ps.set i (x, b)) := by
  refine ⟨?_, ?_, h.ne, by simpa using h.len, h.n1, h.n2, h.low0, h.low1⟩
  · exact (puts_only (S := fun k => k = B) rfl _ _ _ _ (Only.refl _ w)).block h.hR h.ne
  · have := puts_same (oplace (x, b)) w _ (i * 5) h.hB
    unfold ocells at this
    rwa [putL_flat oplace 5 (by decide) oplace_len (OutV.zero, false) ps i (by rw [h.len]; exact hi)] at this
theorem oAt.lowered (l : Int) (h0 : 0 ≤ l) (h1 : l ≤ 4611686018427387904) : oAt (w.setCell ⟨R, 1, none⟩ (.int .i64 l)) R B n l ps :=
  ⟨by have := setCell_same (i := 1) (cs := [.slice (some ⟨B, 0, none⟩) n n, .int .i64 low]) h.hR (.int .i64 l); simpa using this, setCell_other h.hB (Ne.symm h.ne) _, h.ne, h.len, h.n1, h.n2, h0, h1⟩
end
/-- Where a number's place lies. -/
def optr (B n : Nat) (low k : Int) : Option Addr := if low ≤ k ∧ k - low < n then some ⟨B, (k % n).toNat * 5, none⟩ else none
theorem optr_yes {B n : Nat} {low k : Int} (h : low ≤ k ∧ k - low < n) : optr B n low k = some ⟨B, (k % n).toNat * 5, none⟩ := if_pos h
theorem optr_no {B n : Nat} {low k : Int} (h : ¬ (low ≤ k ∧ k - low < n)) : optr B n low k = none := if_neg h
theorem oat_nil (k : Int) (w : World) :
    Calls Try.prog 58 #[.pointer none, .int .i64 k] w fun e w' => e = .returned (.pointer none) ∧ ∃ n, w' = w.drewN n := by
  go_enter Try.func58, Try.ntmps58
  go_wp2_with fail
  go_quiet (fail)
  go_wp2
  go_ret
  exact ⟨rfl, _, rfl⟩
set_option maxHeartbeats 1000000 in
theorem oat_any {w : World} {R B n : Nat} {low : Int} {ps : List (OutV × Bool)} (h : oAt w R B n low ps) (k : Int) (hk : k ≤ 9223372036854775807) :
    Calls Try.prog 58 #[.pointer (some ⟨R, 0, none⟩), .int .i64 k] w fun e w' => e = .returned (.pointer (optr B n low k)) ∧ ∃ n, w' = w.drewN n := by
  have l0 := h.low0
  have n1 := h.n1
  have n2 := h.n2
  have hc0 := h.c0
  have hc1 := h.c1
  have hn : 1 ≤ (n : Int) := by omega
  have hn2 : (n : Int) ≤ 4096 := by omega
  clear h
  by_cases h1 : low ≤ k
  · have d1 : decide (k < low) = false := by simp; omega
    by_cases h2 : k - low < n
    · rw [optr_yes ⟨h1, h2⟩]
      have d2 : decide ((n : Int) ≤ k - low) = false := by simp; omega
      have hz : ((n : Int) == 0) = false := by simp; omega
      have m1 : 0 ≤ k % (n : Int) := Int.emod_nonneg _ (by omega)
      have m2 : k % (n : Int) < n := Int.emod_lt_of_pos _ (by omega)
      go_enter Try.func58, Try.ntmps58
      go_wp2_with fail
      go_quiet (fail)
      go_wp2_with fail
      go_quiet (fail)
      go_wp2
      go_ret
      exact ⟨by simp, _, World.drewN_drewN ..⟩
    · rw [optr_no (fun g => h2 g.2)]
      have d2 : decide ((n : Int) ≤ k - low) = true := by simp; omega
      go_enter Try.func58, Try.ntmps58
      go_wp2_with fail
      go_quiet (fail)
      go_wp2
      go_ret
      exact ⟨rfl, _, rfl⟩
  · rw [optr_no (fun g => h1 g.1)]
    have d1 : decide (k < low) = true := by simp; omega
    go_enter Try.func58, Try.ntmps58
    go_wp2_with fail
    go_quiet (fail)
    go_wp2
    go_ret
    exact ⟨rfl, _, rfl⟩
theorem olow_any {w : World} {R B n : Nat} {low : Int} {ps : List (OutV × Bool)} (h : oAt w R B n low ps) :
    Calls Try.prog 60 #[.pointer (some ⟨R, 0, none⟩)] w fun e w' => e = .returned (.int .i64 low) ∧ w' = w := by
  have c1 := h.c1
  go_enter Try.func60, Try.ntmps60
  go_wp2
  go_ret
  exact ⟨rfl, rfl⟩
/-- What is at a place. -/
def oget (ps : List (OutV × Bool)) (low k : Int) : OutV × Bool := if low ≤ k ∧ k - low < ps.length then ps.getD (k % ps.length).toNat (OutV.zero, false) else (OutV.zero, false)
theorem oinfo : (Try.prog.info? 47).map (·.size) = some 4 := by kernel_rfl
set_option maxHeartbeats 2000000 in
theorem oget_any {w : World} {R B n : Nat} {low : Int} {ps : List (OutV × Bool)} (h : oAt w R B n low ps) (k : Int) (hk : k ≤ 9223372036854775807) :
    Calls Try.prog 43 #[.pointer (some ⟨R, 0, none⟩), .int .i64 k] w fun e w' => e = .returned (.tuple #[.agg (oget ps low k).1.cells.toArray, .bool (oget ps low k).2]) ∧ Below w.heap.size w w' := by
  have n1 := h.n1
  have hb1 := bl_alloc (Below.refl _ w) (.cells #[.slice none 0 0, .slice none 0 0, .slice none 0 0, .slice none 0 0] 47)
  have hz := alloc_new w (.cells #[.slice none 0 0, .slice none 0 0, .slice none 0 0, .slice none 0 0] 47)
  have hat := oat_any (h.below hb1) k hk
  unfold oget
  rw [h.len]
  by_cases g : low ≤ k ∧ k - low < n
  · rw [if_pos g]
    rw [optr_yes g] at hat
    have m1 : 0 ≤ k % (n : Int) := Int.emod_nonneg _ (by omega)
    have m2 : k % (n : Int) < n := Int.emod_lt_of_pos _ (by omega)
    obtain ⟨i, hi⟩ : ∃ i, (k % (n : Int)).toNat = i := ⟨_, rfl⟩
    have hin : i < n := by omega
    rw [hi] at hat ⊢
    have hp := (h.below hb1).px i hin
    have ht := (h.below hb1).pt i hin
    generalize ps.getD i (OutV.zero, false) = y at *
    obtain ⟨x, there⟩ := y
    obtain ⟨la, ln, lc⟩ := x
    dsimp only at hp ht ⊢
    have x0 := hp 0 (by decide)
    have x1 := hp 1 (by decide)
    have x2 := hp 2 (by decide)
    have x3 := hp 3 (by decide)
    simp only [OutV.cells, List.getElem?_cons_zero, List.getElem?_cons_succ, Nat.add_zero] at x0 x1 x2 x3
    have H := Lib.hid hat
    have HB := Lib.hid hb1
    clear hat m1 m2 hi hp h hb1
    go_enter Try.func43, Try.ntmps43
    go_wp2_with (go_at_call 58; refine H.out.mono ?_; rintro e w' ⟨rfl, j, rfl⟩)
    go_region_law (fail)
    all_goals
      go_wp2_with fail
      refine bodyPost_ret (v := .tuple #[.agg (OutV.cells ⟨la, ln, lc⟩).toArray, .bool there]) ?_ rfl ⟨rfl, ?_⟩
      · exact oresults (p := 4) (u := 5) rfl _ _ w.heap.size 47 (OutV.cells ⟨la, ln, lc⟩).toArray (0, 0) _ rfl (olaid_same (cs := [.slice none 0 0, .slice none 0 0, .slice none 0 0, .slice none 0 0]) (w := World.drewN _ (j + 1)) hz rfl ⟨la, ln, lc⟩) Try.underlying47 rfl oinfo
      · exact Only.below (olaid_new (S := fun _ => False) (Nat.le_refl _) (Only.of_below (bl_drewN HB.out (j + 1))) 0 ⟨la, ln, lc⟩) (Nat.le_refl _) (fun _ h => h.elim)
  · rw [if_neg g]
    rw [optr_no g] at hat
    have H := Lib.hid hat
    have HB := Lib.hid hb1
    clear hat h hb1
    go_enter Try.func43, Try.ntmps43
    go_wp2_with (go_at_call 58; refine H.out.mono ?_; rintro e w' ⟨rfl, j, rfl⟩)
    refine bodyPost_ret (v := .tuple #[.agg (OutV.cells OutV.zero).toArray, .bool false]) ?_ rfl ⟨rfl, ?_⟩
    · exact oresults (p := 4) (u := 5) rfl _ _ w.heap.size 47 (OutV.cells OutV.zero).toArray (0, 0) _ rfl (alloc_old (olaid_same (cs := [.slice none 0 0, .slice none 0 0, .slice none 0 0, .slice none 0 0]) (w := World.drewN _ j) hz rfl OutV.zero) _) Try.underlying47 rfl oinfo
    · exact bl_alloc (Only.below (olaid_new (S := fun _ => False) (Nat.le_refl _) (Only.of_below (bl_drewN HB.out j)) 0 OutV.zero) (Nat.le_refl _) (fun _ h => h.elim)) _
end Go.Proofs.Ytibbnikfecilhaa
