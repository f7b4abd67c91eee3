/- Chapter 2: Each and each: a text's tokens as a row. -/
import Derived.Test.YtkioabjdoccfeaaLexE
import Derived.Test.YtkioabjdoccfeaaSl2
namespace Go.Proofs.Ytkioabjdoccfeaa
open Go.RowKit Go.Shelf
set_option linter.unusedVariables false
set_option linter.unusedSimpArgs false
attribute [local go_sem] Oper.semAt_some

theorem each_in (F : Fence) (HF : Hid (F = Fence.wide)) (n : Nat) (s : ByteArray) (w : World) :
    CallsIn F n Try.prog 19 #[.string s] w fun e w' => e = .returned (.func (.func 24) #[] #[.pointer (some ⟨w.heap.size, 0, none⟩)]) ∧ w' = w.alloc (.cells #[.string s] 9 (0, 0)) := by
  refine callsIn_of HF ?_
  go_enter Try.func19, Try.ntmps19
  go_wp2
  go_ret
  exact ⟨rfl, rfl⟩
/-- The iterator over a text keeps its contract. -/
theorem each_stops (F : Fence) (HF : Hid (F = Fence.wide)) (n : Nat) (hn : 1 ≤ n) (Bn : Nat) (s : ByteArray) (hs : s.size ≤ 1000000) (w : World) (hBn : w.heap[Bn]? = some (.cells #[.string s] 9 (0, 0))) :
    SeqStopsK F n Try.prog 24 #[.pointer (some ⟨Bn, 0, none⟩)] (fun x : TokIn s.size => #[Value.agg x.1.cells.toArray]) KeepsToks (fun ys => ys.map (·.1) = (eachL (bl s)).1)
      (fun pre => ∃ rest, pre.map (·.1) ++ rest = (eachL (bl s)).1) (eachL (bl s)).1.length w := fun l J Jx W hW hJ _ hY h0 =>
  each1_in F HF n hn l Bn s hs _ rfl J Jx _ hJ hY W ((hW.block _ (block_lt hBn)).trans hBn) h0
def tokCells (l : List Tok) : List Value := l.flatMap Tok.cells
theorem tokCells_append (l l' : List Tok) : tokCells (l ++ l') = tokCells l ++ tokCells l' := by simp [tokCells]
theorem tokCells_length (l : List Tok) : (tokCells l).length = l.length * 4 := by
  induction l with
  | nil => rfl
  | cons p l ih => simp only [tokCells, List.flatMap_cons, List.length_append, Tok.cells, List.length_cons, List.length_nil] at *; omega
theorem infoTok : (Try.prog.info? 31).map (fun i => (i.zero, i.size, i.bytes)) = some (some (.agg #[.int .i64 0, .int .i64 0, .string ByteArray.empty, .int .i64 0]), 4, 40) := by kernel_rfl
theorem blk_from (B k : Nat) (cs : Array Value) (t : TypeId) (fr : Nat × Nat) : OwnFrom B (fun (_ : Unit) (W : World) => W.heap[k]? = some (.cells cs t fr)) := fun _ W W' row h hg hr => by
  refine (hg.block k (block_lt h) ?_).trans h
  rintro e
  obtain ⟨_, o, ho, hc⟩ := hr k e.symm
  have := ho.symm.trans h
  simp at this
  subst this
  cases hc
theorem own_lt {w : World} {lo : Nat} {e : TypeId} {size : Nat} {v : Value} {n : Nat} {xs : List Value} (h : w.ownsRow lo e size v n xs) {k : Nat} (hk : v.ownBlock = some k) : k < w.heap.size := by
  rcases h.2 with ⟨rfl, _⟩ | ⟨g, cap, cur, rfl, _, hg, _⟩
  · cases hk
  · injection hk with hk; subst hk; exact block_lt hg
theorem own_type {w : World} {lo : Nat} {e : TypeId} {size : Nat} {v : Value} {n : Nat} {xs : List Value} (h : w.ownsRow lo e size v n xs) {k : Nat} (hk : v.ownBlock = some k) {cs : Array Value} {t : TypeId} {fr : Nat × Nat} (hb : w.heap[k]? = some (.cells cs t fr)) : e = t := by
  rcases h.2 with ⟨rfl, _⟩ | ⟨g, cap, cur, rfl, _, hg, _⟩
  · cases hk
  · injection hk with hk
    subst hk
    have := hg.symm.trans hb
    simp at this
    exact this.2.1
theorem neq_nil (W : World) (b : Nat) : (binOp .eql 46 (.func (.func 24) #[] #[.pointer (some ⟨b, 0, none⟩)]) .nilFunc).run Try.prog W = .ok (.bool false) W := by kernel_rfl
/-- Behind an append to the row in box L, and the store of what came of it. -/
structure Appended (lo L : Nat) (W w1 w2 : World) (v v' : Value) (k : Nat) (ys : List Value) : Prop where
  box1 : w1.heap[L]? = some (.cells #[v] 26 (0, 0))
  box : w2.heap[L]? = some (.cells #[v'] 26 (0, 0))
  row : w2.ownsRow lo 31 4 v' (k + 1) ys
  others : KeepsOthers W w2
  toks1 : KeepsToks W w1
  toks : KeepsToks W w2
  below : Below lo W w2
  rest1 : ∀ (b : Nat) (cs : Array Value) (t : TypeId) (fr : Nat × Nat), W.heap[b]? = some (.cells cs t fr) → t ≠ 31 → w1.heap[b]? = some (.cells cs t fr)
  rest2 : ∀ (b : Nat) (cs : Array Value) (t : TypeId) (fr : Nat × Nat), W.heap[b]? = some (.cells cs t fr) → t ≠ 31 → b ≠ L → w2.heap[b]? = some (.cells cs t fr)
theorem appended {lo L : Nat} {W w1 : World} {v v' : Value} {k : Nat} {xs ys : List Value} {tmp : Obj} {row : Option Nat} (hv : W.heap[L]? = some (.cells #[v] 26 (0, 0))) (hrow : W.ownsRow lo 31 4 v k xs) (hnil : v = .slice none 0 0 ∨ 0 < k)
    (hlo : lo ≤ L) (hlo2 : lo ≤ W.heap.size) (hown : w1.ownsRow lo 31 4 v' (k + 1) ys) (hgr : (W.alloc tmp).grownBy w1 row)
    (hr : ∀ j, row = some j → ∃ cap cur, v = .slice (some ⟨j, 0, none⟩) k cap ∧ k + 1 ≤ cap ∧ (W.alloc tmp).heap[j]? = some (.cells cur 31 (0, 0)) ∧ cur.size = cap * 4) :
    Appended lo L W w1 (w1.setCell ⟨L, 0, none⟩ v') v v' k ys := by
  have hjt : ∀ j, row = some j → ∃ cap cur, 2 ≤ cap ∧ (W.alloc tmp).heap[j]? = some (.cells cur 31 (0, 0)) ∧ cur.size = cap * 4 ∧ lo ≤ j ∧ j < W.heap.size := by
    intro j hj
    obtain ⟨cap, cur, h1, h2, h3, h4⟩ := hr j hj
    refine ⟨cap, cur, ?_, h3, h4, own_block hrow (by rw [h1]; rfl), own_lt hrow (by rw [h1]; rfl)⟩
    rcases hnil with h | h
    · rw [h] at h1; cases h1
    · omega
  have rest1 : ∀ (b : Nat) (cs : Array Value) (t : TypeId) (fr : Nat × Nat), W.heap[b]? = some (.cells cs t fr) → t ≠ 31 → w1.heap[b]? = some (.cells cs t fr) := by
    intro b cs t fr hb ht
    have hb' := alloc_old hb tmp
    refine (hgr.block b (block_lt hb') ?_).trans hb'
    intro e
    obtain ⟨_, cur, _, h3, _⟩ := hjt b e.symm
    have := h3.symm.trans hb'
    simp at this
    exact ht this.2.1.symm
  have hb1 := rest1 L _ _ _ hv (by decide)
  have hb2 := setCell_same (cs := [v]) (i := 0) hb1 v'
  have hk1 : KeepsToks W w1 := by
    intro b cs t fr hb ht
    have hb' := alloc_old hb tmp
    refine (hgr.block b (block_lt hb') ?_).trans (hb'.trans hb.symm)
    intro e
    obtain ⟨cap, cur, h2, h3, h4, _⟩ := hjt b e.symm
    have := h3.symm.trans hb'
    simp at this
    obtain ⟨rfl, rfl, _⟩ := this
    rcases ht with ht | ht
    · exact absurd ht (by decide)
    · omega
  refine ⟨hb1, hb2, ?_, ?_, hk1, hk1.trans (KeepsToks.set _ _ _ hb1 (by rintro (h | ⟨h, _⟩) <;> exact absurd h (by decide))), ?_, rest1, fun b cs t fr hb ht hne => (Below.heap_setCell w1 ⟨L, 0, none⟩ v' b hne).trans (rest1 b cs t fr hb ht)⟩
  · refine ownsRow_kept (S := fun b => b = L) hown ((Only.refl _ _).setCell _ _ (.inl rfl)) ?_
    rintro i rfl hk
    exact absurd (own_type hown hk hb1) (by decide)
  · refine ((KeepsOthers.alloc W tmp).trans (KeepsOthers.of_grownBy hgr ?_)).trans (KeepsOthers.setCell _ _ _)
    intro j o hj ho
    obtain ⟨_, cur, _, h3, _⟩ := hjt j hj
    have := h3.symm.trans ho
    simp at this
    subst this
    rfl
  · have h1 : Below lo W (W.alloc tmp) := (Below.refl _ _).alloc hlo2 _
    have h2 : Below lo (W.alloc tmp) w1 := ⟨hgr.os, hgr.tape, hgr.output, hgr.size, fun j hj => by
      have hs := World.size_alloc W tmp
      refine hgr.block j (by omega) ?_
      intro e
      obtain ⟨_, _, _, _, _, h5, _⟩ := hjt j e.symm
      omega⟩
    exact (h1.trans h2).setCell (p := ⟨L, 0, none⟩) hlo _
theorem cells_new_at (w : World) (n : Nat) (hn : w.heap.size = n) (l : List Value) (e : TypeId) : ∀ (j : Nat) (u : Value), l[j]? = some u → (w.alloc (.cells l.toArray e)).cell? ((⟨n, 0, none⟩ : Addr).add j) = some u := by
  subst hn
  intro j u hj
  have h := alloc_new w (.cells l.toArray e)
  have := cell_of_blk h j
  rw [← hj, ← this]
  simp [Addr.add_lit]
def EachI (lo L n : Nat) (pre : List (TokIn n)) (W : World) : Prop := ∃ v, W.heap[L]? = some (.cells #[v] 26 (0, 0)) ∧ W.ownsRow lo 31 4 v pre.length (tokCells (pre.map (·.1))) ∧ (v = .slice none 0 0 ∨ 0 < pre.length)
theorem row_from (B lo : Nat) (e : TypeId) (size : Nat) (v : Value) (n : Nat) (xs : List Value) {W W' : World} {row : Option Nat} (h : W.ownsRow lo e size v n xs) (hg : W.grownBy W' row) (hr : ∀ r, row = some r → B ≤ r ∧ ∃ o : Obj, W.heap[r]? = some o ∧ o.isCells = false) : W'.ownsRow lo e size v n xs := by
  refine h.kept hg ?_
  rcases h.2 with ⟨rfl, _⟩ | ⟨g, cap, cur, rfl, _, hgb, _⟩
  · exact .inl rfl
  · refine .inr fun e' => ?_
    obtain ⟨_, o, ho, hc⟩ := hr g (by simpa [Value.ownBlock] using e'.symm)
    rw [hgb] at ho; cases ho; cases hc
theorem eachI_from (B lo L n : Nat) : OwnFrom B (EachI lo L n) := by
  rintro pre W W' row ⟨v, h1, h2, h3⟩ hg hr
  exact ⟨v, blk_from B L _ _ _ () W W' row h1 hg hr, row_from B lo _ _ _ _ _ h2 hg hr, h3⟩

set_option maxRecDepth 100000 in
set_option maxHeartbeats 4000000 in
theorem each_of (F : Fence) (HF : Hid (F = Fence.wide)) (n : Nat) (hn : 3 ≤ n) (s : ByteArray) (hs : s.size ≤ 1000000) (w : World) :
    CallsIn F n Try.prog 12 #[.string s] w fun e W' => ∃ v, e = .returned v ∧ W'.ownsRow w.heap.size 31 4 v (eachL (bl s)).1.length (tokCells (eachL (bl s)).1) ∧ Below w.heap.size w W' := by
  have h1 : 1 ≤ n := by omega
  have hro : F.round = none := by rw [HF.out]; rfl
  have f1 : F.fn 12 := by rw [HF.out]; trivial
  have f2 : F.fn 19 := by rw [HF.out]; trivial
  have f3 : F.fn 24 := by rw [HF.out]; trivial
  obtain ⟨i0, hi, hz0, hz1, hz2⟩ := info_parts infoTok
  have hnn := neq_nil
  have hN : (eachL (bl s)).1.length ≤ 1000000 := by
    have h := (rest_facts (bl s) _ (skipN (bl s) 0) (Nat.le_refl _) (skipN_le (Nat.zero_le _))).2.2.2
    rw [← eachL_eq, bl_length] at h
    omega
  refine callsIn_of_wp_marks Try.func12 rfl f1 ?_ hro
  simp only [Try.ntmps12, List.size_toArray, List.length_cons, List.length_nil, Nat.reduceAdd, Nat.reduceSub, Array.replicate_succ, Array.replicate_zero, List.push_toArray, List.append_toArray, List.nil_append, List.cons_append]
  gi_wp2_with (gi_at_call 19; refine (each_in F HF (n - 1) s _).mono ?_; rintro e w' ⟨rfl, rfl⟩)
  clear hnn
  have hb0 : ((w.alloc (.cells #[.slice none 0 0] 26 (0, 0))).alloc (.cells #[.string s] 9 (0, 0))).heap[w.heap.size]? = some (.cells #[.slice none 0 0] 26 (0, 0)) := alloc_old (alloc_new w _) _
  have hb1 : ((w.alloc (.cells #[.slice none 0 0] 26 (0, 0))).alloc (.cells #[.string s] 9 (0, 0))).heap[w.heap.size + 1]? = some (.cells #[.string s] 9 (0, 0)) := by
    have := alloc_new (w.alloc (.cells #[.slice none 0 0] 26 (0, 0))) (.cells #[.string s] 9 (0, 0))
    rwa [World.size_alloc] at this
  have hbel : Below w.heap.size w ((w.alloc (.cells #[.slice none 0 0] 26 (0, 0))).alloc (.cells #[.string s] 9 (0, 0))) := bl_alloc (bl_alloc (Below.refl _ _) _) _
  have hsz : ((w.alloc (.cells #[.slice none 0 0] 26 (0, 0))).alloc (.cells #[.string s] 9 (0, 0))).heap.size = w.heap.size + 2 := by simp
  generalize (w.alloc (.cells #[.slice none 0 0] 26 (0, 0))).alloc (.cells #[.string s] 9 (0, 0)) = W0 at *
  refine wpIn_rangeFunc_ownH hro h1 (gf := 24) (lb := #[.pointer (some ⟨w.heap.size + 1, 0, none⟩)]) rfl f3 (enters_of Try.func24 (by kernel_rfl) rfl)
    (each_stops F HF (n - 1) (by omega) _ s hs W0 hb1) (fun h k => h.trans k) (keepsToks_put W0) (Below.refl _ _) (fun _ => rfl)
    (fun pre W => EachI w.heap.size w.heap.size s.size pre W ∧ Below w.heap.size w W)
    (fun _ _ _ => False)
    (OwnFrom.and (eachI_from _ _ _ _) (ownFrom_below (Nat.le_refl _) (by omega)))
    (fun _ _ _ _ _ hs _ _ => hs)
    ⟨⟨_, hb0, ⟨rfl, .inl ⟨rfl, rfl⟩⟩, .inl rfl⟩, hbel⟩
    (fun x a' W => ∃ Bx, W.heap[Bx]? = some (.cells x.1.cells.toArray 31 (0, 0)) ∧ a' = { tmps := #[.string s, undef, .slice none 0 0, .pointer (some ⟨w.heap.size, 0, none⟩), .func (.func 24) #[] #[.pointer (some ⟨w.heap.size + 1, 0, none⟩)], .pointer (some ⟨Bx, 0, none⟩), .string s, .func (.func 24) #[] #[.pointer (some ⟨w.heap.size + 1, 0, none⟩)], .func (.func 24) #[] #[.pointer (some ⟨w.heap.size + 1, 0, none⟩)], .bool false, .func (.func 24) #[] #[.pointer (some ⟨w.heap.size + 1, 0, none⟩)], .agg x.1.cells.toArray, undef, undef, undef, undef, undef], defers := [] })
    ?ax ?assign ?body ?done ?stop
  case ax =>
    rintro x a' _ W W' row ⟨Bx, h1, h2⟩ hg hr
    exact ⟨Bx, blk_from _ Bx _ _ _ () W W' row h1 hg hr, h2⟩
  case assign =>
    rintro l pre ⟨⟨k, a, t, m⟩, hx⟩ W K hi hK
    simp only [Tok.cells] at hK ⊢
    gi_wp2
    exact hK _ _ ((KeepsOthers.alloc _ _).from _) (KeepsToks.of_below (bl_alloc (Below.refl _ _) _)) ⟨(eachI_from 0 _ _ _).alloc _ hi.1, bl_alloc hi.2 _⟩ ⟨W.heap.size, alloc_new W _, rfl⟩
  case body =>
    rintro l pre ⟨⟨k, a, t, m⟩, hx⟩ a' W hl hr ⟨⟨v, hv, hrow, hnil⟩, hB⟩ ⟨Bx, hBx, rfl⟩ hlt
    have c0 : W.cell? ⟨w.heap.size, 0, none⟩ = some v := cell_of_blk (cs := [v]) hv 0
    have hle := hB.size
    have x0 : W.cell? ⟨Bx, 0, none⟩ = some (.int .i64 k) := cell_of_blk (cs := Tok.cells ⟨k, a, t, m⟩) hBx 0
    have x1 : W.cell? ⟨Bx, 1, none⟩ = some (.int .i64 a) := cell_of_blk (cs := Tok.cells ⟨k, a, t, m⟩) hBx 1
    have x2 : W.cell? ⟨Bx, 2, none⟩ = some (.string (mkb t)) := cell_of_blk (cs := Tok.cells ⟨k, a, t, m⟩) hBx 2
    have x3 : W.cell? ⟨Bx, 3, none⟩ = some (.int .i64 m) := cell_of_blk (cs := Tok.cells ⟨k, a, t, m⟩) hBx 3
    have HBX := Lib.hid hBx
    have HR := Lib.hid hr
    clear hBx hr hb0 hb1 hbel
    gi_wp2_with (gi_at_builtin; refine wpListIn_append_apart _ rfl _ _ 26 rfl w.heap.size 31 i0 _ 4 40 Try.underlying26 hi hz0 hz1 hz2 rfl (by decide) v _ _ rfl (hrow.alloc _) ⟨W.heap.size, 0, none⟩ 1 1 [.int .i64 k, .int .i64 a, .string (mkb t), .int .i64 m] rfl rfl (cells_new_at _ _ rfl _ _) (by simp [Value.oneCell']) (by simp only [maxLen]; omega) (by omega) (by simp; omega) ?_; intro v' w1 row hown' hgrow hrw; obtain ⟨g', cap', rfl⟩ := ownsRow_succ hown'; have hap := appended hv hrow hnil (Nat.le_refl _) hle hown' hgrow hrw; have hc1 : w1.cell? ⟨w.heap.size, 0, none⟩ = some v := cell_of_blk (cs := [v]) hap.box1 0; have hf1 : w1.frozen? ⟨w.heap.size, 0, none⟩ = false := free_of_blk (cs := [v]) hap.box1 0)
    refine ⟨hap.others.from _, hap.toks, ⟨_, hap.box, ?_, .inr (by simp)⟩, hB.trans hap.below⟩
    have h4 := hap.row
    rw [List.length_append, List.map_append, tokCells_append]
    exact h4
  case done =>
    rintro D ys W hD hys ⟨⟨v, hv, hrow, hnil⟩, hB⟩ hK
    have c0 : W.cell? ⟨w.heap.size, 0, none⟩ = some v := cell_of_blk (cs := [v]) hv 0
    gi_wp2
    refine ⟨by simp, .inl ⟨_, _, rfl, run_takeDeferred hK, ?_⟩⟩
    refine ⟨_, results_tmp rfl _ _ _, v, rfl, ?_, hB.trans (belowK_b (w := w) (Nat.le_refl _) W D _ _ (by omega) hK rfl rfl)⟩
    have h4 := ownsRow_putObj hrow (.deferred none) hK rfl
    rw [← hys, List.length_map]
    exact h4
  case stop =>
    rintro D c pre W _ _ h _
    exact h.elim
theorem each_any (s : ByteArray) (hs : s.size ≤ 1000000) (w : World) :
    Calls Try.prog 12 #[.string s] w fun e W' => ∃ v, e = .returned v ∧ W'.ownsRow w.heap.size 31 4 v (eachL (bl s)).1.length (tokCells (eachL (bl s)).1) ∧ Below w.heap.size w W' :=
  callsIn_wide.1 (each_of Fence.wide (Lib.hid rfl) 3 (by omega) s hs w)
end Go.Proofs.Ytkioabjdoccfeaa
