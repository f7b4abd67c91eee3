/- Chapter 5: events, codes, the parts of Eval: num.Do, last, and the two closures. -/
import Derived.Test.YtecdnpdmjbcioaaRows
import Derived.Test.YtecdnpdmjbcioaaSl
import Derived.Test.YtecdnpdmjbcioaaRead
import Derived.StillTailTactics
import Derived.BigQuiet
import Derived.Laws.Rows
import Derived.IntWalk
namespace Go.Proofs.Ytecdnpdmjbcioaa
open Go.RowKit
set_option linter.unusedVariables false

theorem results_ct' {P : Program} {fn : Func} {p u : Tmp} {ty : TypeId} (h : fn.results = #[.cell p ty, .tmp u]) (tmps : Array Value) (w : World) (g : Nat) (t : TypeId) (cs : Array Value) (fr : Nat × Nat) (d : TypeDesc)
    (hp : tmps.getD p undef = .pointer (some ⟨g, 0, none⟩)) (hg : w.heap[g]? = some (.cells cs t fr))
    (hu : P.underlying ty = some d) (hd : (match d with | .struct _ | .array _ _ => true | _ => false) = true) (hi : (P.info? ty).map (·.size) = some cs.size) :
    (results fn tmps).run P w = .ok (.tuple #[.agg cs, tmps.getD u undef]) w := by
  have hp' : tmps[p]?.getD undef = .pointer (some ⟨g, 0, none⟩) := by simpa using hp
  simp [results, h, hp', asAddr, run_loadVar_row w g t ty cs fr d hg hu hd hi]

/-- What is reckoned with two numbers. -/
def doNum (op a b : Int) : Int × Bool :=
  if op = 1 then (wrap64 (a + b), true) else if op = 2 then (wrap64 (a + wrap64 (-b)), true) else if op = 3 then (wrap64 (a * b), true)
  else if op = 4 then (if b = 0 then (0, false) else (wrap64 (a.tdiv b), true)) else if op = 5 then (if b = 0 then (0, false) else (a.tmod b, true)) else (0, false)

set_option maxHeartbeats 1000000 in
theorem do_any (op a b : Int) (w : World) :
    Calls Try.prog 87 #[.int .i64 op, .int .i64 a, .int .i64 b] w fun e w' => e = .returned (.tuple #[.int .i64 (doNum op a b).1, .bool (doNum op a b).2]) ∧ w = w' := by
  unfold doNum
  by_cases h1 : op = 1
  · subst h1
    go_enter Try.func87, Try.ntmps87
    go_wp2
    go_ret2
    exact ⟨rfl, rfl⟩
  by_cases h2 : op = 2
  · subst h2
    go_enter Try.func87, Try.ntmps87
    go_wp2
    go_ret2
    exact ⟨rfl, rfl⟩
  by_cases h3 : op = 3
  · subst h3
    go_enter Try.func87, Try.ntmps87
    go_wp2
    go_ret2
    exact ⟨rfl, rfl⟩
  by_cases h4 : op = 4
  · subst h4
    by_cases hz : b = 0
    · subst hz
      go_enter Try.func87, Try.ntmps87
      go_wp2
      go_ret2
      exact ⟨rfl, rfl⟩
    · have d1 : (b != 0) = true := by simpa using hz
      go_enter Try.func87, Try.ntmps87
      go_wp2
      go_ret2
      exact ⟨rfl, rfl⟩
  by_cases h5 : op = 5
  · subst h5
    by_cases hz : b = 0
    · subst hz
      go_enter Try.func87, Try.ntmps87
      go_wp2
      go_ret2
      exact ⟨rfl, rfl⟩
    · have d1 : (b != 0) = true := by simpa using hz
      go_enter Try.func87, Try.ntmps87
      go_wp2
      go_ret2
      exact ⟨rfl, rfl⟩
  · have d1 : (op == 1) = false := by simpa using h1
    have d2 : (op == 2) = false := by simpa using h2
    have d3 : (op == 3) = false := by simpa using h3
    have d4 : (op == 4) = false := by simpa using h4
    have d5 : (op == 5) = false := by simpa using h5
    rw [if_neg h1, if_neg h2, if_neg h3, if_neg h4, if_neg h5]
    go_enter Try.func87, Try.ntmps87
    go_wp2
    go_ret2
    exact ⟨rfl, rfl⟩

/-- An event, as numbers. -/
structure Ev where
  typ : Int
  key : Int
  a : Int
  b : Int
  c : Int
  d : Int
def Ev.zero : Ev := ⟨0, 0, 0, 0, 0, 0⟩
def Ev.cells (e : Ev) : List Value := [.int .i64 e.typ, .int .i64 e.key, .int .i64 e.a, .int .i64 e.b, .int .i64 e.c, .int .i64 e.d]
def Ev.num (e : Ev) (f : Int) : Int := if f = 0 then e.a else if f = 1 then e.b else if f = 2 then e.c else if f = 3 then e.d else 0
/-- A row of events that can be read. -/
structure EvsAt (w : World) (A : Option Addr) (n : Nat) (es : List Ev) : Prop where
  len : es.length = n
  cells : 0 < n → ∃ b off, A = some ⟨b, off, none⟩ ∧ b < w.heap.size ∧ ∀ i, i < n → ∀ j, j < 6 → w.cell? ⟨b, off + i * 6 + j, none⟩ = (es.getD i Ev.zero).cells[j]?
/-- A row of rows of events. -/
structure SetsAt (w : World) (A : Option Addr) (n : Nat) (ss : List (List Ev)) : Prop where
  len : ss.length = n
  cells : 0 < n → ∃ b off, A = some ⟨b, off, none⟩ ∧ b < w.heap.size ∧ ∀ i, i < n → ∃ A' c', w.cell? ⟨b, off + i, none⟩ = some (.slice A' (ss.getD i []).length c') ∧ EvsAt w A' (ss.getD i []).length (ss.getD i [])
theorem EvsAt.below {w w' : World} {A : Option Addr} {n : Nat} {es : List Ev} (h : EvsAt w A n es) (hb : Below w.heap.size w w') : EvsAt w' A n es := by
  refine ⟨h.len, fun hp => ?_⟩
  obtain ⟨b, off, rfl, h2, hc⟩ := h.cells hp
  exact ⟨b, off, rfl, Nat.lt_of_lt_of_le h2 hb.size, fun i hi j hj => (World.cell?_of_block (hb.block b h2)).trans (hc i hi j hj)⟩
theorem SetsAt.below {w w' : World} {A : Option Addr} {n : Nat} {ss : List (List Ev)} (h : SetsAt w A n ss) (hb : Below w.heap.size w w') : SetsAt w' A n ss := by
  refine ⟨h.len, fun hp => ?_⟩
  obtain ⟨b, off, rfl, h2, hc⟩ := h.cells hp
  refine ⟨b, off, rfl, Nat.lt_of_lt_of_le h2 hb.size, fun i hi => ?_⟩
  obtain ⟨A', c', h3, h4⟩ := hc i hi
  exact ⟨A', c', (World.cell?_of_block (hb.block b h2)).trans h3, h4.below hb⟩

/-- What is last in a place's set, and how many there are. -/
def setOf (ss : List (List Ev)) (at_ : Int) : List Ev := if 0 ≤ at_ then ss.getD at_.toNat [] else []
def lastOf (ss : List (List Ev)) (at_ : Int) : Ev := (setOf ss at_).getLastD Ev.zero

theorem evInfo : (Try.prog.info? 53).map (·.size) = some 6 := by kernel_rfl
set_option maxHeartbeats 1000000 in
theorem last_any {w : World} {A : Option Addr} {n c : Nat} {ss : List (List Ev)} (h : SetsAt w A n ss) (at_ : Int) (hn : n ≤ 1000000) (hm : ∀ s ∈ ss, s.length ≤ 1000000) :
    Calls Try.prog 86 #[.slice A n c, .int .i64 at_] w fun e w' => e = .returned (.tuple #[.agg (lastOf ss at_).cells.toArray, .int .i64 (setOf ss at_).length]) ∧ Below w.heap.size w w' := by
  have hl := h.len
  by_cases h1 : 0 ≤ at_
  · have d1 : decide (at_ < 0) = false := decide_eq_false (by omega)
    obtain ⟨k, rfl⟩ : ∃ k : Nat, at_ = k := ⟨at_.toNat, by omega⟩
    by_cases h2 : k < n
    · obtain ⟨b, off, rfl, hbl, hc⟩ := h.cells (by omega)
      obtain ⟨A', c', c0, he⟩ := hc k h2
      have d2 : decide ((n : Int) ≤ k) = false := decide_eq_false (by omega)
      have h20 : (k : Int) < n := by omega
      have hmk : (ss.getD k []).length ≤ 1000000 := by
        rw [List.getD_eq_getElem?_getD, List.getElem?_eq_getElem (by omega)]
        exact hm _ (List.getElem_mem _)
      have e1 : setOf ss k = ss.getD k [] := by unfold setOf; rw [if_pos (by omega)]; simp
      unfold lastOf
      rw [e1]
      generalize ss.getD k [] = s at *
      clear hc hl hm h
      rcases Nat.eq_zero_or_pos s.length with h3 | h3
      · obtain rfl : s = [] := List.eq_nil_of_length_eq_zero h3
        simp only [List.length_nil] at c0
        go_enter Try.func86, Try.ntmps86
        go_wp2
        refine bodyPost_ret (v := .tuple #[.agg Ev.zero.cells.toArray, .int .i64 0]) ?_ rfl ⟨rfl, bl_alloc (Below.refl _ w) _⟩
        exact results_ct' (p := 4) (u := 5) rfl _ _ w.heap.size 53 (Ev.cells Ev.zero).toArray (0, 0) _ rfl (alloc_new w _) Try.underlying53 rfl evInfo
      · obtain ⟨m, hm1⟩ : ∃ m, s.length = m + 1 := ⟨s.length - 1, by omega⟩
        obtain ⟨b1, o1, rfl, hb1, hc1⟩ := he.cells (by omega)
        have x := hc1 m (by omega)
        have x0 := x 0 (by omega)
        have x1 := x 1 (by omega)
        have x2 := x 2 (by omega)
        have x3 := x 3 (by omega)
        have x4 := x 4 (by omega)
        have x5 := x 5 (by omega)
        have hg : s.getLastD Ev.zero = s.getD m Ev.zero := by
          rw [List.getD_eq_getElem?_getD, List.getElem?_eq_getElem (by omega), List.getLastD_eq_getLast?, List.getLast?_eq_getElem?, List.getElem?_eq_getElem (by omega)]
          simp [hm1]
        rw [hg]
        generalize s.getD m Ev.zero = e at *
        obtain ⟨e1, e2, e3, e4, e5, e6⟩ := e
        simp only [Ev.cells, List.getElem?_cons_zero, List.getElem?_cons_succ, Nat.add_zero] at x0 x1 x2 x3 x4 x5
        generalize s.length = L at *
        have d3 : ((L : Int) == 0) = false := by simp; omega
        have s1 : IntKind.i64.wrap ((L : Int) - 1) = (m : Int) := (IntWalk.i64_in _ (by omega)).trans (by omega)
        have hmL : (m : Int) < L := by omega
        have HM := Lib.hid hm1
        clear x hc1 hg hm1 he h3
        have y : ∀ a, a.block < w.heap.size → (w.alloc (.cells #[.int .i64 0, .int .i64 0, .int .i64 0, .int .i64 0, .int .i64 0, .int .i64 0] 53)).cell? a = w.cell? a := fun a ha => World.cell?_of_block (Below.heap_alloc w _ a.block ha)
        have c0' := (y _ hbl).trans c0
        have x0' := (y _ hb1).trans x0
        have x1' := (y _ hb1).trans x1
        have x2' := (y _ hb1).trans x2
        have x3' := (y _ hb1).trans x3
        have x4' := (y _ hb1).trans x4
        have x5' := (y _ hb1).trans x5
        clear y c0 x0 x1 x2 x3 x4 x5
        go_enter Try.func86, Try.ntmps86
        go_wp2
        refine bodyPost_ret (v := .tuple #[.agg (Ev.cells ⟨e1, e2, e3, e4, e5, e6⟩).toArray, .int .i64 L]) ?_ rfl ⟨rfl, bl_alloc (Below.refl _ w) _⟩
        exact results_ct' (p := 4) (u := 5) rfl _ _ w.heap.size 53 (Ev.cells ⟨e1, e2, e3, e4, e5, e6⟩).toArray (0, 0) _ rfl (alloc_new w _) Try.underlying53 rfl evInfo
    · have d2 : decide ((n : Int) ≤ k) = true := decide_eq_true (by omega)
      have e1 : setOf ss k = [] := by unfold setOf; rw [if_pos (by omega), List.getD_eq_getElem?_getD, List.getElem?_eq_none (by omega)]; rfl
      unfold lastOf
      rw [e1]
      go_enter Try.func86, Try.ntmps86
      go_wp2
      refine bodyPost_ret (v := .tuple #[.agg Ev.zero.cells.toArray, .int .i64 0]) ?_ rfl ⟨rfl, bl_alloc (Below.refl _ w) _⟩
      exact results_ct' (p := 4) (u := 5) rfl _ _ w.heap.size 53 (Ev.cells Ev.zero).toArray (0, 0) _ rfl (alloc_new w _) Try.underlying53 rfl evInfo
  · have d1 : decide (at_ < 0) = true := decide_eq_true (by omega)
    have e1 : setOf ss at_ = [] := if_neg h1
    unfold lastOf
    rw [e1]
    go_enter Try.func86, Try.ntmps86
    go_wp2
    refine bodyPost_ret (v := .tuple #[.agg Ev.zero.cells.toArray, .int .i64 0]) ?_ rfl ⟨rfl, bl_alloc (Below.refl _ w) _⟩
    exact results_ct' (p := 4) (u := 5) rfl _ _ w.heap.size 53 (Ev.cells Ev.zero).toArray (0, 0) _ rfl (alloc_new w _) Try.underlying53 rfl evInfo
end Go.Proofs.Ytecdnpdmjbcioaa
