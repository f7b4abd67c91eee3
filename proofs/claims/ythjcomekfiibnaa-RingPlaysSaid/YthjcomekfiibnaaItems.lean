/- 'items': what a ring tells one by one, as a row of its own. -/
import Derived.Test.YthjcomekfiibnaaRingAll
import Derived.WalkSmall
namespace Go.Proofs.Ythjcomekfiibnaa
open Go.RowKit Go.Shelf
set_option linter.unusedVariables false
attribute [local go_sem] Oper.semAt_some

def itemCells (l : List (Int × Int)) : List Value := l.flatMap fun p => [.int .i64 p.1, .int .i64 p.2]
theorem itemCells_append (l l' : List (Int × Int)) : itemCells (l ++ l') = itemCells l ++ itemCells l' := by simp [itemCells]
theorem itemCells_length (l : List (Int × Int)) : (itemCells l).length = l.length * 2 := by
  induction l with
  | nil => rfl
  | cons p l ih => simp only [itemCells, List.flatMap_cons, List.length_append, List.length_cons, List.length_nil] at *; omega
theorem infoItem : (Try.prog.info? 44).map (fun i => (i.zero, i.size, i.bytes)) = some (some (.agg #[.int .i64 0, .int .i64 0]), 2, 16) := by kernel_rfl

theorem neq_nil (W : World) (b : Nat) : (binOp .eql 60 (.func (.func 29) #[] #[.pointer (some ⟨b, 0, none⟩)]) .nilFunc).run Try.prog W = .ok (.bool false) W := by kernel_rfl

set_option maxRecDepth 100000 in
set_option maxHeartbeats 2000000 in
theorem items_of (F : Fence) (HF : Hid (F = Fence.wide)) (n : Nat) (hn : 3 ≤ n) (p : Option Addr) (w : World) (S : Nat → Prop) (hS : ∀ k, S k → k < w.heap.size ∨ k = w.heap.size + 1) (N : Nat) (hN : N ≤ 4096) (ys0 : List (Int × Int)) (Sp : List (Int × Int) → Prop)
    (hseq : ∀ W, W = (w.alloc (.cells #[.slice none 0 0] 28 (0, 0))).alloc (.cells #[.pointer p] 25 (0, 0)) → SeqStopsK F (n - 1) Try.prog 29 #[.pointer (some ⟨w.heap.size + 1, 0, none⟩)] (fun x : Int × Int => #[Value.int .i64 x.1, Value.int .i64 x.2]) (KeepsBlocks S) (fun ys => ys = ys0) Sp N W) :
    CallsIn F n Try.prog 17 #[.pointer p] w fun e W' => ∃ v, e = .returned v ∧ W'.ownsRow w.heap.size 44 2 v ys0.length (itemCells ys0) ∧ Below w.heap.size w W' := by
  have h1 : 1 ≤ n := by omega
  have hro : F.round = none := by rw [HF.out]; rfl
  have f1 : F.fn 17 := by rw [HF.out]; trivial
  have f2 : F.fn 25 := by rw [HF.out]; trivial
  have f3 : F.fn 29 := by rw [HF.out]; trivial
  obtain ⟨i0, hi, hz0, hz1, hz2⟩ := info_parts infoItem
  have HQ := Lib.hid hseq
  have hnn := neq_nil
  clear hseq
  refine callsIn_of_wp_marks Try.func17 rfl f1 ?_ hro
  simp only [Try.ntmps17, List.size_toArray, List.length_cons, List.length_nil, Nat.reduceAdd, Nat.reduceSub, Array.replicate_succ, Array.replicate_zero, List.push_toArray, List.append_toArray, List.nil_append, List.cons_append]
  gi_wp2_with (gi_at_call 25; refine (all_in F HF (n - 1) _ _).mono ?_; rintro e w' ⟨rfl, rfl⟩)
  have hs : Boxed ((w.alloc (.cells #[.slice none 0 0] 28 (0, 0))).alloc (.cells #[.pointer p] 25 (0, 0))) w.heap.size 28 (.slice none 0 0) := (Boxed.new w 28 _).alloc _
  have hq : Boxed ((w.alloc (.cells #[.slice none 0 0] 28 (0, 0))).alloc (.cells #[.pointer p] 25 (0, 0))) (w.heap.size + 1) 25 (.pointer p) := by
    have := Boxed.new (w.alloc (.cells #[.slice none 0 0] 28 (0, 0))) 25 (.pointer p)
    rwa [World.size_alloc] at this
  have hB0 : Below w.heap.size w ((w.alloc (.cells #[.slice none 0 0] 28 (0, 0))).alloc (.cells #[.pointer p] 25 (0, 0))) := ((Below.refl _ w).alloc (Nat.le_refl _) _).alloc (by simp) _
  clear hnn
  refine wpIn_rangeFunc_ownF hro h1 (gf := 29) (lb := #[.pointer (some ⟨w.heap.size + 1, 0, none⟩)]) rfl f3 (enters_of Try.func29 (by kernel_rfl) rfl)
    (HQ.out _ rfl) (fun h k => h.trans k) (keeps_put (fun k hk => by have := hS k hk; simp; omega)) (Below.refl _ _) (fun _ => rfl)
    (fun pre W => (∃ v, Boxed W w.heap.size 28 v ∧ W.ownsRow w.heap.size 44 2 v pre.length (itemCells pre)) ∧ Below w.heap.size w W ∧ Boxed W (w.heap.size + 1) 25 (.pointer p))
    (fun _ _ _ => False)
    ?own
    (fun _ _ _ _ _ hs _ _ => hs)
    ⟨⟨_, hs, by have := World.ownsRow_nil; exact ⟨rfl, .inl ⟨rfl, rfl⟩⟩⟩, hB0, hq⟩
    (fun x => { tmps := #[.pointer p, undef, .slice none 0 0, .pointer (some ⟨w.heap.size, 0, none⟩), .func (.func 29) #[] #[.pointer (some ⟨w.heap.size + 1, 0, none⟩)], .int .i64 x.1, .int .i64 x.2, .pointer p, .func (.func 29) #[] #[.pointer (some ⟨w.heap.size + 1, 0, none⟩)], .func (.func 29) #[] #[.pointer (some ⟨w.heap.size + 1, 0, none⟩)], .bool false, .func (.func 29) #[] #[.pointer (some ⟨w.heap.size + 1, 0, none⟩)], .int .i64 x.1, .int .i64 x.2, undef, undef, undef, undef, undef, undef, undef], defers := [] }) ?assign ?body ?done ?stop
  case own =>
    refine OwnFrom.and (Own.from ?_ _) (OwnFrom.and (ownFrom_below (Nat.le_refl _) (by simp; omega)) (Own.from (boxed_own _ _ _) _))
    intro s A B row hs hg hr
    obtain ⟨v, h1, h2⟩ := hs
    obtain ⟨v', h1', h2', _⟩ := holdsRow_own w.heap.size w.heap.size 28 44 2 (fun (s : List (Int × Int)) => s.length) itemCells (fun _ _ => True) s A B row ⟨v, h1, h2, trivial⟩ hg hr
    exact ⟨v', h1', h2'⟩
  case assign =>
    intro l x W K hK
    gi_wp2
    simpa using hK
  case body =>
    rintro l pre x W ⟨⟨v, hv, hrow⟩, hB, hbx⟩ hlt
    have hc := hv.cell
    have hle := hB.size
    gi_wp2_with (gi_at_builtin; refine wpListIn_append_own _ rfl _ _ 28 rfl w.heap.size 44 i0 _ 2 16 Try.underlying28 hi hz0 hz1 hz2 rfl (by decide) _ _ _ rfl (hrow.alloc _) ⟨W.heap.size, 0, none⟩ 1 1 [.int .i64 x.1, .int .i64 x.2] rfl rfl (cell_two_new _ _ _ _) (by simp [Value.oneCell']) (by simp only [maxLen]; omega) (by omega) (by simp; omega) ?_; intro v' w1 hown' hgrow _; obtain ⟨g', cap', rfl⟩ := ownsRow_succ hown'; obtain ⟨hv1, hv2, hr2, hk2, hb2⟩ := hv.appended (by decide) hrow hB.size (Nat.le_refl _) hown' hgrow; have hc1 := hv1.cell; have hf1 := hv1.frozen)
    have hbx1 := (hbx.alloc (.cells #[.int .i64 x.1, .int .i64 x.2] 44)).kept hgrow (hbx.not_row (by decide) hrow)
    have hbx2 := hbx1.other (show w.heap.size + 1 ≠ w.heap.size by omega) (.slice (some ⟨g', 0, none⟩) (pre.length + 1) cap')
    refine ⟨hk2, ?_, ⟨_, hv2, by rw [itemCells_append, List.length_append]; exact hr2⟩, hB.trans hb2, hbx2⟩
    intro k hk
    rcases hS k hk with h | rfl
    · exact hb2.block k h
    · exact Eq.trans hbx2 (Eq.symm hbx)
  case done =>
    rintro D ys W hD rfl ⟨⟨v, hv, hrow⟩, hB, _⟩ hK
    have hc := hv.cell
    gi_wp2
    refine ⟨by simp, .inl ⟨_, _, rfl, run_takeDeferred hK, ?_⟩⟩
    exact ⟨_, results_tmp rfl _ _ _, _, rfl, ownsRow_putObj hrow _ hK rfl, hB.trans (belowK_b (w := w) (Nat.le_refl _) W D _ _ (by simp at hD; omega) hK rfl rfl)⟩
  case stop =>
    rintro D c pre W _ _ h _
    exact h.elim

theorem items_any {w : World} {R B n : Nat} {low : Int} {ps : List (Int × Bool)} (h : RingAt w R B n low ps) :
    Calls Try.prog 17 #[.pointer (some ⟨R, 0, none⟩)] w fun e W' => ∃ v, e = .returned v ∧ W'.ownsRow w.heap.size 44 2 v (ringTo ps low n).length (itemCells (ringTo ps low n)) ∧ Below w.heap.size w W' := by
  have lR := block_lt h.hR
  have lB := block_lt h.hB
  refine callsIn_wide.1 (items_of Fence.wide (Lib.hid rfl) 3 (by omega) (some ⟨R, 0, none⟩) w (fun k => k = R ∨ k = B ∨ k = w.heap.size + 1) (by rintro k (rfl | rfl | rfl) <;> omega) n h.n2 _ (fun pre => ∃ k, k ≤ n ∧ pre = ringTo ps low k) ?_)
  rintro W rfl
  refine all_stops Fence.wide (Lib.hid rfl) 2 (by omega) (w.heap.size + 1) R B n low ps _ ?_ ?_
  · have := alloc_new (w.alloc (.cells #[.slice none 0 0] 28 (0, 0))) (.cells #[.pointer (some ⟨R, 0, none⟩)] 25 (0, 0))
    rwa [World.size_alloc] at this
  · exact h.kept (S := fun _ => False) (((Only.refl _ w).alloc _).alloc _) id id
theorem items_nil (w : World) :
    Calls Try.prog 17 #[.pointer none] w fun e W' => ∃ v, e = .returned v ∧ W'.ownsRow w.heap.size 44 2 v 0 [] ∧ Below w.heap.size w W' := by
  refine callsIn_wide.1 (items_of Fence.wide (Lib.hid rfl) 3 (by omega) none w (fun _ => False) (by rintro k h; exact h.elim) 0 (by omega) [] (fun _ => False) ?_)
  rintro W rfl
  refine all_nil_stops Fence.wide (Lib.hid rfl) 2 (w.heap.size + 1) _ ?_ _
  have := alloc_new (w.alloc (.cells #[.slice none 0 0] 28 (0, 0))) (.cells #[.pointer none] 25 (0, 0))
  rwa [World.size_alloc] at this
end Go.Proofs.Ythjcomekfiibnaa
