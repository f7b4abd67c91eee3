/- The ring's iterator (All), and the length that is counted with it. -/
import Derived.Test.YthjcomekfiibnaaRing
import Derived.RangeFuncNested
import Derived.RangeFuncBound
import Derived.RangeFuncCalls
import Derived.RangeFuncLeaves
import Derived.RangeFuncFrom
import Derived.RangeFuncBox
import Derived.Shelf.Abstract
import Derived.OwnWalkIn
import Derived.TacticsInMore
import Derived.LoopNIn
import Derived.LoopIn
import Derived.Sort.QuietIn
import Derived.Maps.AppendAt
namespace Go.Proofs.Ythjcomekfiibnaa
open Go.RowKit Go.Shelf
set_option linter.unusedVariables false
attribute [local go_sem] Oper.semAt_some

theorem callsIn_of {F : Fence} (HF : Hid (F = Fence.wide)) {n : Nat} {P : Program} {f : FuncId} {args : Array Value} {w : World} {R : Ending → World → Prop} (h : Calls P f args w R) : CallsIn F n P f args w R := by
  have e := HF.out
  subst e
  exact callsIn_wide.2 h
theorem grownBy_drewN (w : World) (n : Nat) : w.grownBy (w.drewN n) none := ⟨rfl, rfl, rfl, Nat.le_refl _, fun _ _ _ => rfl⟩
/-- What a round of the loop over a ring keeps: the blocks that the iterator reads. -/
def KeepsBlocks (S : Nat → Prop) (A B : World) : Prop := ∀ k, S k → B.heap[k]? = A.heap[k]?
theorem KeepsBlocks.trans {S : Nat → Prop} {A B C : World} (h : KeepsBlocks S A B) (k : KeepsBlocks S B C) : KeepsBlocks S A C := fun i hi => (k i hi).trans (h i hi)

/-- What has come of a ring's things when k places are over. -/
def ringTo (ps : List (Int × Bool)) (low : Int) (k : Nat) : List (Int × Int) := (List.range k).filterMap fun (i : Nat) => if (ringGet ps low (low + i)).2 = true then some (low + i, (ringGet ps low (low + i)).1) else none
theorem ringTo_yes {ps : List (Int × Bool)} {low : Int} {k : Nat} (h : (ringGet ps low (low + k)).2 = true) : ringTo ps low (k + 1) = ringTo ps low k ++ [(low + k, (ringGet ps low (low + k)).1)] := by
  simp [ringTo, List.range_succ, h]
theorem ringTo_no {ps : List (Int × Bool)} {low : Int} {k : Nat} (h : (ringGet ps low (low + k)).2 = false) : ringTo ps low (k + 1) = ringTo ps low k := by
  simp [ringTo, List.range_succ, h]
theorem ringTo_length (ps : List (Int × Bool)) (low : Int) (k : Nat) : (ringTo ps low k).length ≤ k := by
  unfold ringTo
  have := List.length_filterMap_le (fun i : Nat => if (ringGet ps low (low + i)).2 = true then some (low + (i : Int), (ringGet ps low (low + i)).1) else none) (List.range k)
  simpa using this

set_option maxRecDepth 100000 in
set_option maxHeartbeats 2000000 in
theorem all1_in (F : Fence) (HF : Hid (F = Fence.wide)) (n : Nat) (hn : 1 ≤ n) (l Bn R B N : Nat) (low : Int) (ps : List (Int × Bool)) (J Jx : List (Int × Int) → World → Prop) (B0 : Nat) (hAb : AbidesFrom B0 J)
    (hY : ∀ pre x W, J pre W → pre.length < N → YieldAt F (n - 1) Try.prog l #[.int .i64 x.1, .int .i64 x.2] W fun e W' =>
      (e = .returned (.bool true) ∧ J (pre ++ [x]) W' ∧ KeepsBlocks (fun k => k = R ∨ k = B ∨ k = Bn) W W') ∨ (e = .returned (.bool false) ∧ Jx (pre ++ [x]) W'))
    (W : World) (hBn : W.heap[Bn]? = some (.cells #[.pointer (some ⟨R, 0, none⟩)] 25 (0, 0))) (hr : RingAt W R B N low ps) (h0 : J [] W) :
    CallsIn F n Try.prog 29 #[.func (.yield l) #[] #[], .pointer (some ⟨Bn, 0, none⟩)] W fun e W' => (∃ v, e = .returned v) ∧
      ((∃ ys, ys = ringTo ps low N ∧ J ys W') ∨ (∃ pre, (∃ k, k ≤ N ∧ pre = ringTo ps low k) ∧ Jx pre W')) := by
  have n2 := hr.n2
  have l0 := hr.low0
  have l1 := hr.low1
  have hb0 : W.cell? ⟨Bn, 0, none⟩ = some (.pointer (some ⟨R, 0, none⟩)) := by simp [World.cell?, hBn]
  have hc0 := hr.c0
  have hro : F.round = none := by rw [HF.out]; rfl
  have h1 : F.fn 29 := by rw [HF.out]; trivial
  have h2 : F.fn 14 := by rw [HF.out]; trivial
  refine callsIn_of_wp Try.func29 rfl h1 ?_ hro
  simp only [Try.ntmps29, List.size_toArray, List.length_cons, List.length_nil, Nat.reduceAdd, Nat.reduceSub, Array.replicate_succ, Array.replicate_zero, List.push_toArray, List.append_toArray, List.nil_append, List.cons_append]
  gi_wp2
  gi_loopw [13] (fun i wr => ∃ k : Nat, k ≤ N ∧ i = .int .i64 k ∧ J (ringTo ps low k) wr ∧ RingAt wr R B N low ps ∧ wr.heap[Bn]? = some (.cells #[.pointer (some ⟨R, 0, none⟩)] 25 (0, 0)))
    (fun i _ => N - (intOf i).toNat)
  case atStart => exact ⟨0, Nat.zero_le _, rfl, h0, hr, hBn⟩
  case round =>
    obtain ⟨k, hk, rfl, hJs, hrk, hbk⟩ := hrel
    have HJ := Lib.hid hJs
    have HB := Lib.hid hbk
    have ck0 : wr.cell? ⟨Bn, 0, none⟩ = some (.pointer (some ⟨R, 0, none⟩)) := by simp [World.cell?, hbk]
    have ck1 := hrk.c1
    clear hJs hbk hb0 hc0
    by_cases hlt : k < N
    · have s1 : IntKind.i64.wrap (low + k) = low + k := IntWalk.i64_in _ (by omega)
      have hget : ∀ j, Calls Try.prog 14 #[.pointer (some ⟨R, 0, none⟩), .int .i64 (low + k)] (wr.drewN j) fun e w' => e = .returned (.tuple #[.int .i64 (ringGet ps low (low + k)).1, .bool (ringGet ps low (low + k)).2]) ∧ ∃ n, w' = (wr.drewN j).drewN n :=
        fun j => get_any (hrk.drewN j) _ (by omega)
      cases hb : (ringGet ps low (low + k)).2
      · have HT := Lib.hid (ringTo_no hb)
        rw [hb] at hget
        generalize (ringGet ps low (low + k)).1 = x at *
        have HG := Lib.hid hget
        clear hget hb
        gi_wp2
        refine wpIn_region_quiet_lit hro (by kernel_rfl) (by kernel_rfl) ?_
        repeat (gi_big_quiet_step ((gi_at_call 14; refine CallsIn.quiet_of (callsIn_of HF (HG.out _)))))
        refine wpQuietIn_nil ?_
        intro _ hw'
        obtain ⟨nq, hw''⟩ := hw'
        subst hw''
        gi_wp2
        refine ⟨fun _ h => (by cases h), ?_⟩
        gi_wp2
        go_roundw
        case rel => exact ⟨k + 1, by omega, by go_num, by rw [HT.out]; exact hAb _ _ _ none HJ.out (grownBy_drewN _ _) (fun _ e => by cases e), hrk.drewN _, HB.out⟩
        case measure => simp [intOf]; omega
      · have HT := Lib.hid (ringTo_yes hb)
        rw [hb] at hget
        have hlen := ringTo_length ps low k
        generalize (ringGet ps low (low + k)).1 = x at *
        have HG := Lib.hid hget
        clear hget hb
        gi_wp2
        refine wpIn_region_quiet_lit hro (by kernel_rfl) (by kernel_rfl) ?_
        repeat (gi_big_quiet_step ((gi_at_call 14; refine CallsIn.quiet_of (callsIn_of HF (HG.out _)))))
        refine wpQuietIn_nil ?_
        intro _ hw'
        obtain ⟨nq, hw''⟩ := hw'
        subst hw''
        have hJ2 : J (ringTo ps low k) (wr.drewN nq) := hAb _ _ _ none HJ.out (grownBy_drewN _ _) (fun _ e => by cases e)
        obtain ⟨fn, tmps, assign, body, hy, hR⟩ := hY _ (low + k, x) (wr.drewN nq) hJ2 (by omega)
        dsimp only at hy
        clear hJ2
        gi_wp2
        refine hR.mono ?_
        rintro e W3 (⟨rfl, hJ3, hk3⟩ | ⟨rfl, hJx3⟩)
        · gi_wp2
          go_roundw
          case rel => exact ⟨k + 1, by omega, by go_num, by rw [HT.out]; exact hJ3, ⟨(hk3 R (.inl rfl)).trans hrk.hR, (hk3 B (.inr (.inl rfl))).trans hrk.hB, hrk.ne, hrk.len, hrk.n1, hrk.n2, hrk.low0, hrk.low1⟩, (hk3 Bn (.inr (.inr rfl))).trans HB.out⟩
          case measure => simp [intOf]; omega
        · gi_wp2
          refine bodyPost_ret (results_none rfl _ _ _) rfl ?_
          exact ⟨⟨_, rfl⟩, .inr ⟨_, ⟨k + 1, by omega, HT.out.symm⟩, hJx3⟩⟩
    · obtain rfl : k = N := by omega
      gi_wp2
      go_end0
      exact ⟨⟨_, rfl⟩, .inl ⟨_, rfl, HJ.out⟩⟩

set_option maxHeartbeats 1000000 in
theorem all1_nil_in (F : Fence) (HF : Hid (F = Fence.wide)) (n : Nat) (l Bn : Nat) (J : List (Int × Int) → World → Prop)
    (W : World) (hBn : W.cell? ⟨Bn, 0, none⟩ = some (.pointer none)) (h0 : J [] W) :
    CallsIn F n Try.prog 29 #[.func (.yield l) #[] #[], .pointer (some ⟨Bn, 0, none⟩)] W fun e W' => (∃ v, e = .returned v) ∧ J [] W' := by
  have hro : F.round = none := by rw [HF.out]; rfl
  have h1 : F.fn 29 := by rw [HF.out]; trivial
  refine callsIn_of_wp Try.func29 rfl h1 ?_ hro
  simp only [Try.ntmps29, List.size_toArray, List.length_cons, List.length_nil, Nat.reduceAdd, Nat.reduceSub, Array.replicate_succ, Array.replicate_zero, List.push_toArray, List.append_toArray, List.nil_append, List.cons_append]
  gi_wp2
  refine bodyPost_ret (results_none rfl _ _ _) rfl ?_
  exact ⟨⟨_, rfl⟩, h0⟩

theorem all_in (F : Fence) (HF : Hid (F = Fence.wide)) (n : Nat) (p : Option Addr) (w : World) :
    CallsIn F n Try.prog 25 #[.pointer p] w fun e w' => e = .returned (.func (.func 29) #[] #[.pointer (some ⟨w.heap.size, 0, none⟩)]) ∧ w' = w.alloc (.cells #[.pointer p] 25 (0, 0)) := by
  refine callsIn_of HF ?_
  go_enter Try.func25, Try.ntmps25
  go_wp2
  go_ret
  exact ⟨rfl, rfl⟩

/-- The iterator over a ring that lies below n₀ keeps its contract. -/
theorem all_stops (F : Fence) (HF : Hid (F = Fence.wide)) (n : Nat) (hn : 1 ≤ n) (Bn R B N : Nat) (low : Int) (ps : List (Int × Bool)) (w : World)
    (hBn : w.heap[Bn]? = some (.cells #[.pointer (some ⟨R, 0, none⟩)] 25 (0, 0))) (hr : RingAt w R B N low ps) :
    SeqStopsK F n Try.prog 29 #[.pointer (some ⟨Bn, 0, none⟩)] (fun x : Int × Int => #[Value.int .i64 x.1, Value.int .i64 x.2]) (KeepsBlocks (fun k => k = R ∨ k = B ∨ k = Bn)) (fun ys => ys = ringTo ps low N)
      (fun pre => ∃ k, k ≤ N ∧ pre = ringTo ps low k) N w := fun l J Jx W hW hJ _ hY h0 => by
  have h1 := (hW.block _ (block_lt hr.hR)).trans hr.hR
  have h2 := (hW.block _ (block_lt hr.hB)).trans hr.hB
  have h3 := (hW.block _ (block_lt hBn)).trans hBn
  exact all1_in F HF n hn l Bn R B N low ps J Jx _ hJ hY W h3 ⟨h1, h2, hr.ne, hr.len, hr.n1, hr.n2, hr.low0, hr.low1⟩ h0
theorem all_nil_stops (F : Fence) (HF : Hid (F = Fence.wide)) (n : Nat) (Bn : Nat) (w : World)
    (hBn : w.heap[Bn]? = some (.cells #[.pointer none] 25 (0, 0))) (S : Nat → Prop) :
    SeqStopsK F n Try.prog 29 #[.pointer (some ⟨Bn, 0, none⟩)] (fun x : Int × Int => #[Value.int .i64 x.1, Value.int .i64 x.2]) (KeepsBlocks S) (fun ys => ys = [])
      (fun _ => False) 0 w := fun l J Jx W hW hJ _ hY h0 => by
  have h3 := (hW.block _ (block_lt hBn)).trans hBn
  exact (all1_nil_in F HF n l Bn J W (by simp [World.cell?, h3]) h0).mono fun e W' ⟨he, hj⟩ => ⟨he, .inl ⟨_, rfl, hj⟩⟩

theorem keeps_put {S : Nat → Prop} {w : World} (hS : ∀ k, S k → k < w.heap.size) (W : World) (l : Nat) (o o' : Obj) (hl : w.heap.size ≤ l) (_ : W.heap[l]? = some o) (_ : o.isCells = false) (_ : o.isWalk = false) : KeepsBlocks S W (W.putObj l o') :=
  fun k hk => World.putObj_heap_other (by have := hS k hk; omega)
theorem keeps_set {S : Nat → Prop} (W : World) (b i : Nat) (v : Value) (hb : ¬ S b) : KeepsBlocks S W (W.setCell ⟨b, i, none⟩ v) :=
  fun k hk => Below.heap_setCell W ⟨b, i, none⟩ v k (fun e => hb (by subst e; exact hk))

set_option maxRecDepth 100000 in
set_option maxHeartbeats 2000000 in
/-- A length that is counted, over whatever the iterator tells. -/
theorem len_of (F : Fence) (HF : Hid (F = Fence.wide)) (n : Nat) (hn : 3 ≤ n) (p : Option Addr) (w : World) (S : Nat → Prop) (hS : ∀ k, S k → k ≠ w.heap.size ∧ k < w.heap.size + 2) (N : Nat) (hN : N ≤ 4096) (ys0 : List (Int × Int)) (Sp : List (Int × Int) → Prop)
    (hseq : ∀ W, W = (w.alloc (.cells #[.int .i64 0] 3 (0, 0))).alloc (.cells #[.pointer p] 25 (0, 0)) → SeqStopsK F (n - 1) Try.prog 29 #[.pointer (some ⟨w.heap.size + 1, 0, none⟩)] (fun x : Int × Int => #[Value.int .i64 x.1, Value.int .i64 x.2]) (KeepsBlocks S) (fun ys => ys = ys0) Sp N W) :
    CallsIn F n Try.prog 19 #[.pointer p] w fun e W' => e = .returned (.int .i64 ys0.length) ∧ Below w.heap.size w W' := by
  have h1 : 1 ≤ n := by omega
  have hro : F.round = none := by rw [HF.out]; rfl
  have f1 : F.fn 19 := by rw [HF.out]; trivial
  have f2 : F.fn 25 := by rw [HF.out]; trivial
  have f3 : F.fn 29 := by rw [HF.out]; trivial
  have HQ := Lib.hid hseq
  clear hseq
  refine callsIn_of_wp_marks Try.func19 rfl f1 ?_ hro
  simp only [Try.ntmps19, List.size_toArray, List.length_cons, List.length_nil, Nat.reduceAdd, Nat.reduceSub, Array.replicate_succ, Array.replicate_zero, List.push_toArray, List.append_toArray, List.nil_append, List.cons_append]
  gi_wp2_with (gi_at_call 25; refine (all_in F HF (n - 1) _ _).mono ?_; rintro e w' ⟨rfl, rfl⟩)
  have hs : Boxed ((w.alloc (.cells #[.int .i64 0] 3)).alloc (.cells #[.pointer p] 25)) w.heap.size 3 (.int .i64 (([] : List (Int × Int)).length)) := (Boxed.new w 3 _).alloc _
  have hB0 : Below w.heap.size w ((w.alloc (.cells #[.int .i64 0] 3)).alloc (.cells #[.pointer p] 25)) := ((Below.refl _ w).alloc (Nat.le_refl _) _).alloc (by simp) _
  refine wpIn_rangeFunc_ownF hro h1 (gf := 29) (lb := #[.pointer (some ⟨w.heap.size + 1, 0, none⟩)]) rfl f3 (enters_of Try.func29 (by kernel_rfl) rfl)
    (HQ.out _ rfl) (fun h k => h.trans k) (keeps_put (fun k hk => by have := hS k hk; simp; omega)) (Below.refl _ _) (fun _ => rfl)
    (fun pre W => Boxed W w.heap.size 3 (.int .i64 pre.length) ∧ Below w.heap.size w W)
    (fun _ _ _ => False)
    (OwnFrom.and (Own.from (boxed_own _ _ _) _) (ownFrom_below (Nat.le_refl _) (by simp; omega)))
    (fun _ _ _ _ _ hs _ _ => hs)
    ⟨hs, hB0⟩
    (fun x => { tmps := #[.pointer p, undef, .int .i64 0, .pointer (some ⟨w.heap.size, 0, none⟩), .pointer p, .func (.func 29) #[] #[.pointer (some ⟨w.heap.size + 1, 0, none⟩)], .int .i64 x.1, .int .i64 x.2, undef, undef, undef], defers := [] }) ?assign ?body ?done ?stop
  case assign =>
    intro l x W K hK
    gi_wp2
    simpa using hK
  case body =>
    rintro l pre x W ⟨hb, hB⟩ hlt
    have hc := hb.cell
    have hf := hb.frozen
    gi_wp2
    exact ⟨KeepsOthers.setCell _ _ _, keeps_set _ _ _ _ (fun h => (hS _ h).1 rfl), by rw [List.length_append]; exact hb.set _, hB.setCell (p := ⟨w.heap.size, 0, none⟩) (Nat.le_refl _) _⟩
  case done =>
    rintro D ys W hD rfl ⟨hb, hB⟩ hK
    have hc := hb.cell
    gi_wp2
    refine ⟨by simp, .inl ⟨_, _, rfl, run_takeDeferred hK, ?_⟩⟩
    exact ⟨_, results_tmp rfl _ _ _, rfl, hB.trans (belowK_b (w := w) (Nat.le_refl _) W D _ _ (by simp at hD; omega) hK rfl rfl)⟩
  case stop =>
    rintro D c pre W _ _ h _
    exact h.elim

theorem len_any {w : World} {R B n : Nat} {low : Int} {ps : List (Int × Bool)} (h : RingAt w R B n low ps) :
    Calls Try.prog 19 #[.pointer (some ⟨R, 0, none⟩)] w fun e w' => e = .returned (.int .i64 (ringTo ps low n).length) ∧ Below w.heap.size w w' := by
  have lR := block_lt h.hR
  have lB := block_lt h.hB
  refine callsIn_wide.1 (len_of Fence.wide (Lib.hid rfl) 3 (by omega) (some ⟨R, 0, none⟩) w (fun k => k = R ∨ k = B ∨ k = w.heap.size + 1) (by rintro k (rfl | rfl | rfl) <;> omega) n h.n2 _ (fun pre => ∃ k, k ≤ n ∧ pre = ringTo ps low k) ?_)
  rintro W rfl
  refine all_stops Fence.wide (Lib.hid rfl) 2 (by omega) (w.heap.size + 1) R B n low ps _ ?_ ?_
  · have := alloc_new (w.alloc (.cells #[.int .i64 0] 3 (0, 0))) (.cells #[.pointer (some ⟨R, 0, none⟩)] 25 (0, 0))
    rwa [World.size_alloc] at this
  · exact h.kept (S := fun _ => False) (((Only.refl _ w).alloc _).alloc _) id id
theorem len_nil (w : World) :
    Calls Try.prog 19 #[.pointer none] w fun e w' => e = .returned (.int .i64 0) ∧ Below w.heap.size w w' := by
  refine callsIn_wide.1 (len_of Fence.wide (Lib.hid rfl) 3 (by omega) none w (fun _ => False) (by rintro k h; exact h.elim) 0 (by omega) [] (fun _ => False) ?_)
  rintro W rfl
  refine all_nil_stops Fence.wide (Lib.hid rfl) 2 (w.heap.size + 1) _ ?_ _
  have := alloc_new (w.alloc (.cells #[.int .i64 0] 3 (0, 0))) (.cells #[.pointer none] 25 (0, 0))
  rwa [World.size_alloc] at this
end Go.Proofs.Ythjcomekfiibnaa
