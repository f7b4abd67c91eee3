/- Chapter 6: All: what a merge tells, as a row. (Printed by tupgen.py.) -/
import Derived.Test.YtmiijnemacgbiaaTupN
namespace Go.Proofs.Ytmiijnemacgbiaa
open Go.RowKit Go.Shelf
set_option linter.unusedVariables false
set_option linter.unusedSimpArgs false
attribute [local go_sem] Oper.semAt_some

def intCells (l : List Int) : List Value := l.map (.int .i64)
theorem intCells_append (a b : List Int) : intCells (a ++ b) = intCells a ++ intCells b := by simp [intCells]
theorem infoInt : (Try.prog.info? 3).map (fun i => (i.zero, i.size, i.bytes)) = some (some (.int .i64 0), 1, 8) := by kernel_rfl
/-- The collector's own memory: its box, its row. -/
structure AI (lo B0 : Nat) (pre : List Int) (W : World) (v : Value) : Prop where
  box : W.heap[B0]? = some (.cells #[v] 26 (0, 0))
  row : W.ownsRow lo 3 1 v pre.length (intCells pre)
  nil : v = .slice none 0 0 ∨ 0 < pre.length
theorem AI.from {lo B0 B : Nat} : OwnFrom B (fun pre W => ∃ v, AI lo B0 pre W v) := by
  rintro pre W W' row ⟨v, h1, h2, h3⟩ hg hr
  exact ⟨v, blk_from B B0 _ _ _ () W W' row h1 hg hr, row_from B lo _ _ _ _ _ h2 hg hr, h3⟩
structure Appended (lo L : Nat) (W w1 w2 : World) (v v' : Value) (pre ys : List Int) : Prop where
  box1 : w1.heap[L]? = some (.cells #[v] 26 (0, 0))
  ai : AI lo L ys w2 v'
  others : KeepsOthers W w2
  keep : KeepsM L W w2
  below : Below lo W w2
theorem appended {lo L : Nat} {W w1 : World} {v v' : Value} {pre : List Int} {x : Int} {tmp : Obj} {row : Option Nat} (h : AI lo L pre W v)
    (hlo : lo ≤ L) (hlo2 : lo ≤ W.heap.size) (hown : w1.ownsRow lo 3 1 v' (pre.length + 1) (intCells pre ++ [.int .i64 x])) (hgr : (W.alloc tmp).grownBy w1 row)
    (hr : ∀ j, row = some j → ∃ cap cur, v = .slice (some ⟨j, 0, none⟩) pre.length cap ∧ pre.length + 1 ≤ cap ∧ (W.alloc tmp).heap[j]? = some (.cells cur 3 (0, 0)) ∧ cur.size = cap * 1) (hlor : ∀ k, v.ownBlock = some k → L < k) :
    Appended lo L W w1 (w1.setCell ⟨L, 0, none⟩ v') v v' pre (pre ++ [x]) := by
  obtain ⟨hv, hrow, hnil⟩ := h
  have hjt : ∀ j, row = some j → ∃ cur, (W.alloc tmp).heap[j]? = some (.cells cur 3 (0, 0)) ∧ lo ≤ j ∧ j < W.heap.size ∧ L < j := by
    intro j hj
    obtain ⟨cap, cur, h1, h2, h3, h4⟩ := hr j hj
    exact ⟨cur, h3, own_block hrow (by rw [h1]; rfl), own_lt hrow (by rw [h1]; rfl), hlor j (by rw [h1]; rfl)⟩
  have rest1 : ∀ (b : Nat) (cs : Array Value) (t : TypeId) (fr : Nat × Nat), W.heap[b]? = some (.cells cs t fr) → (b ≤ L ∨ t ≠ 3) → w1.heap[b]? = some (.cells cs t fr) := by
    intro b cs t fr hb ht
    have hb' := alloc_old hb tmp
    refine (hgr.block b (block_lt hb') ?_).trans hb'
    intro e
    obtain ⟨cur, h3, _, _, hL⟩ := hjt b e.symm
    rcases ht with ht | ht
    · omega
    · have := h3.symm.trans hb'
      simp at this
      exact ht this.2.1.symm
  have hb1 := rest1 L _ _ _ hv (.inl (Nat.le_refl _))
  have hb2 := setCell_same (cs := [v]) (i := 0) hb1 v'
  refine ⟨hb1, ⟨hb2, ?_, .inr (by simp)⟩, ?_, ?_, ?_⟩
  · rw [List.length_append, intCells_append]
    refine ownsRow_kept (S := fun b => b = L) hown ((Only.refl _ _).setCell _ _ (.inl rfl)) ?_
    rintro i rfl hk
    exact absurd (own_type hown hk hb1) (by decide)
  · refine ((KeepsOthers.alloc W tmp).trans (KeepsOthers.of_grownBy hgr ?_)).trans (KeepsOthers.setCell _ _ _)
    intro j o hj ho
    obtain ⟨cur, h3, _⟩ := hjt j hj
    have := h3.symm.trans ho
    simp at this
    subst this
    rfl
  · intro k cs t fr hk hc
    have h1 := rest1 k cs t fr hk (by rcases hc with h | ⟨_, h⟩; exact .inl (by omega); exact .inr h)
    rw [hk, ← h1]
    exact Below.heap_setCell w1 ⟨L, 0, none⟩ v' k (by show k ≠ L; rcases hc with h | ⟨h, _⟩ <;> omega)
  · have h1 : Below lo W (W.alloc tmp) := (Below.refl _ _).alloc hlo2 _
    have h2 : Below lo (W.alloc tmp) w1 := ⟨hgr.os, hgr.tape, hgr.output, hgr.size, fun j hj => by
      have hs := World.size_alloc W tmp
      refine hgr.block j (by omega) ?_
      intro e
      obtain ⟨_, _, h5, _⟩ := hjt j e.symm
      omega⟩
    exact (h1.trans h2).setCell (p := ⟨L, 0, none⟩) hlo _
theorem AI.lor {L : Nat} {pre : List Int} {W : World} {v : Value} (h : AI L L pre W v) : ∀ k, v.ownBlock = some k → L < k := by
  intro k hk
  have h1 := own_block h.row hk
  have h2 : k ≠ L := by
    intro e
    subst e
    have ht := own_type h.row hk h.box
    exact absurd ht (by decide)
  omega
set_option maxRecDepth 100000 in
set_option maxHeartbeats 4000000 in
theorem all_ofLess (F : Fence) (HF : Hid (F = Fence.wide)) (n : Nat) (hn : 3 ≤ n) (Br Bl : Nat) {A : Option Addr} {nr c : Nat} {rs : List RowV} (hnr : nr ≤ 1000000) (hsum : sumL (nums rs) ≤ 1000000) (w : World)
    (hBr : w.heap[Br]? = some (.cells #[.slice A nr c] 22 (0, 0))) (hBl : w.heap[Bl]? = some (.cells #[.func (.func 13) #[] #[]] 32 (0, 0)))
    (hR : RowsAt w A nr rs) :
    CallsIn F n Try.prog 11 #[.func (.func 26) #[] #[.pointer (some ⟨Br, 0, none⟩), .pointer (some ⟨Bl, 0, none⟩)]] w fun e W' => ∃ v, e = .returned v ∧ W'.ownsRow w.heap.size 3 1 v (mergeA pLess (nums rs)).length (intCells (mergeA pLess (nums rs))) ∧ Below w.heap.size w W' := by
  have h1 : 1 ≤ n := by omega
  have hro : F.round = none := by rw [HF.out]; rfl
  have f1 : F.fn 11 := by rw [HF.out]; trivial
  have f3 : F.fn 26 := by rw [HF.out]; trivial
  obtain ⟨i0, hi, hz0, hz1, hz2⟩ := info_parts infoInt
  refine callsIn_of_wp_marks Try.func11 rfl f1 ?_ hro
  simp only [Try.ntmps11, List.size_toArray, List.length_cons, List.length_nil, Nat.reduceAdd, Nat.reduceSub, Array.replicate_succ, Array.replicate_zero, List.push_toArray, List.append_toArray, List.nil_append, List.cons_append]
  gi_wp2
  have hb0 := alloc_new w (.cells #[.slice none 0 0] 26)
  have hbel := bl_alloc (Below.refl _ w) (.cells #[.slice none 0 0] 26)
  have hsz : (w.alloc (.cells #[.slice none 0 0] 26)).heap.size = w.heap.size + 1 := by simp
  have hBr0 := alloc_old hBr (.cells #[.slice none 0 0] 26)
  have hBl0 := alloc_old hBl (.cells #[.slice none 0 0] 26)
  have hR0 := hR.below hbel
  have hlt1 := block_lt hBr
  have hlt2 := block_lt hBl
  have hL : LowR w.heap.size rs := by
    intro r hr hp b off e
    obtain ⟨b', off', e', hlt, _⟩ := (hR.each r hr).2.2.2.cells hp
    rw [e] at e'
    injection e' with e'
    injection e' with e' _ _
    omega
  obtain ⟨L, hLL⟩ : ∃ L, w.heap.size = L := ⟨_, rfl⟩
  rw [hLL] at hb0 hsz hlt1 hlt2 hL
  have hbel2 : Below L w (w.alloc (.cells #[.slice none 0 0] 26)) := by rw [← hLL]; exact hbel
  simp only [hLL]
  generalize w.alloc (.cells #[.slice none 0 0] 26) = W0 at *
  refine range_stores hro h1 (gf := 26) (lb := #[.pointer (some ⟨Br, 0, none⟩), .pointer (some ⟨Bl, 0, none⟩)]) rfl f3 (enters_of Try.func26 (by kernel_rfl) rfl)
    (fun x : Int => #[.int .i64 x]) (fun _ => rfl) (KeepsM L) (fun h k => h.trans k) (fun W l o o' _ hl ho => keepsM_put L W l o o' hl ho)
    (fun pre W => (∃ v, AI L L pre W v) ∧ Below L w W) (OwnFrom.and AI.from (ownFrom_below (Nat.le_of_eq hLL.symm) (by omega)))
    (fun t => t = 26 ∨ t = 44) ?st ⟨⟨_, hb0, ⟨rfl, .inl ⟨rfl, rfl⟩⟩, .inl rfl⟩, hbel2⟩
    (fun x => { tmps := #[.func (.func 26) #[] #[.pointer (some ⟨Br, 0, none⟩), .pointer (some ⟨Bl, 0, none⟩)], undef, .slice none 0 0, .pointer (some ⟨L, 0, none⟩), .int .i64 x, .func (.func 26) #[] #[.pointer (some ⟨Br, 0, none⟩), .pointer (some ⟨Bl, 0, none⟩)], .int .i64 x, undef, undef, undef, undef, undef], defers := [] })
    ?assign (mergeA pLess (nums rs)).length ?body (fun xs => xs = mergeA pLess (nums rs)) ?hit ?done
  case st =>
    rintro pre W b i v cs t fr ⟨⟨u, hu⟩, hB⟩ hb hc ht
    have hti : t ≠ 3 := by rcases ht with rfl | rfl <;> decide
    refine ⟨⟨u, setCell_other hu.box (by omega) _, ownsRow_kept hu.row ((Only.refl (fun k => k = b) W).setCell _ _ (.inl rfl)) ?_, hu.nil⟩, hB.setCell (p := ⟨b, i, none⟩) (by show L ≤ b; omega) _⟩
    rintro k rfl hk
    exact hti (own_type hu.row hk hc).symm
  case assign =>
    intro l x W K hK
    gi_wp2
    exact hK
  case body =>
    rintro l pre x W ⟨⟨v, hv⟩, hB⟩ hlt
    have c0 := cell_of_blk (cs := [v]) hv.box 0
    have hle : L ≤ W.heap.size := by rw [← hLL]; exact Nat.le_trans (Nat.le_of_eq rfl) hB.size
    have hml := mergeA_length (p := pLess) _ (nums rs) rfl
    have hrowa := hv.row.alloc (.cells #[.int .i64 x] 3)
    gi_wp2_with (gi_at_builtin; refine wpListIn_append_apart _ rfl _ _ 26 rfl L 3 i0 _ 1 8 Try.underlying26 hi hz0 hz1 hz2 rfl (by decide) v _ _ rfl hrowa ⟨W.heap.size, 0, none⟩ 1 1 [.int .i64 x] rfl rfl (World.news_of_block (cs := #[.int .i64 x]) (t := 3) (fr := (0, 0)) (alloc_new W _)) (by simp [Value.oneCell']) (by simp only [maxLen]; omega) (by omega) (by simp; omega) ?_; intro v' w1 row hown' hgrow hrw; obtain ⟨g', cap', rfl⟩ := ownsRow_succ hown'; have hap := appended hv (Nat.le_refl _) hle hown' hgrow hrw hv.lor; have hc1 : w1.cell? ⟨L, 0, none⟩ = some v := cell_of_blk (cs := [v]) hap.box1 0; have hf1 : w1.frozen? ⟨L, 0, none⟩ = false := free_of_blk (cs := [v]) hap.box1 0)
    exact ⟨hap.others.from _, hap.keep, ⟨_, hap.ai⟩, hB.trans hap.below⟩
  case hit =>
    intro l J W hW hAb hSt hY h0
    exact merge1Less F HF (n - 1) (by omega) l Br Bl L hnr J W W.heap.size (Nat.le_refl _) (by have := hW.size; omega) hAb hSt _ rfl hY ((hW.block Br (block_lt hBr0)).trans hBr0) ((hW.block Bl (block_lt hBl0)).trans hBl0) (hR0.below hW) hL h0
  case done =>
    rintro D xs W hD rfl ⟨⟨v, hv⟩, hB⟩ hK
    have c0 := cell_of_blk (cs := [v]) hv.box 0
    gi_wp2
    refine ⟨by simp, .inl ⟨_, _, rfl, run_takeDeferred hK, ?_⟩⟩
    subst hLL
    refine ⟨_, results_tmp rfl _ _ _, v, rfl, ownsRow_putObj hv.row (.deferred none) hK rfl, hB.trans (belowK_b (w := w) (Nat.le_refl _) W D _ _ (by omega) hK rfl rfl)⟩
theorem allLess {A : Option Addr} {nr c : Nat} {rs : List RowV} (hnr : nr ≤ 1000000) (hsum : sumL (nums rs) ≤ 1000000) (w : World) {Br Bl : Nat}
    (hBr : w.heap[Br]? = some (.cells #[.slice A nr c] 22 (0, 0))) (hBl : w.heap[Bl]? = some (.cells #[.func (.func 13) #[] #[]] 32 (0, 0)))
    (hR : RowsAt w A nr rs) :
    Calls Try.prog 11 #[.func (.func 26) #[] #[.pointer (some ⟨Br, 0, none⟩), .pointer (some ⟨Bl, 0, none⟩)]] w fun e W' => ∃ v, e = .returned v ∧ W'.ownsRow w.heap.size 3 1 v (mergeA pLess (nums rs)).length (intCells (mergeA pLess (nums rs))) ∧ Below w.heap.size w W' :=
  callsIn_wide.1 (all_ofLess Fence.wide (Lib.hid rfl) 3 (by omega) Br Bl hnr hsum w hBr hBl hR)
set_option maxRecDepth 100000 in
set_option maxHeartbeats 4000000 in
theorem all_ofAwake (F : Fence) (HF : Hid (F = Fence.wide)) (n : Nat) (hn : 3 ≤ n) (Br Bl : Nat) {A : Option Addr} {nr c : Nat} {rs : List RowV} (hnr : nr ≤ 1000000) (hsum : sumL (nums rs) ≤ 1000000) (w : World)
    (hBr : w.heap[Br]? = some (.cells #[.slice A nr c] 22 (0, 0))) (hBl : w.heap[Bl]? = some (.cells #[.func (.func 22) #[] #[]] 32 (0, 0)))
    (hR : RowsAt w A nr rs) :
    CallsIn F n Try.prog 11 #[.func (.func 26) #[] #[.pointer (some ⟨Br, 0, none⟩), .pointer (some ⟨Bl, 0, none⟩)]] w fun e W' => ∃ v, e = .returned v ∧ W'.ownsRow w.heap.size 3 1 v (mergeA pAwake (nums rs)).length (intCells (mergeA pAwake (nums rs))) ∧ Below w.heap.size w W' := by
  have h1 : 1 ≤ n := by omega
  have hro : F.round = none := by rw [HF.out]; rfl
  have f1 : F.fn 11 := by rw [HF.out]; trivial
  have f3 : F.fn 26 := by rw [HF.out]; trivial
  obtain ⟨i0, hi, hz0, hz1, hz2⟩ := info_parts infoInt
  refine callsIn_of_wp_marks Try.func11 rfl f1 ?_ hro
  simp only [Try.ntmps11, List.size_toArray, List.length_cons, List.length_nil, Nat.reduceAdd, Nat.reduceSub, Array.replicate_succ, Array.replicate_zero, List.push_toArray, List.append_toArray, List.nil_append, List.cons_append]
  gi_wp2
  have hb0 := alloc_new w (.cells #[.slice none 0 0] 26)
  have hbel := bl_alloc (Below.refl _ w) (.cells #[.slice none 0 0] 26)
  have hsz : (w.alloc (.cells #[.slice none 0 0] 26)).heap.size = w.heap.size + 1 := by simp
  have hBr0 := alloc_old hBr (.cells #[.slice none 0 0] 26)
  have hBl0 := alloc_old hBl (.cells #[.slice none 0 0] 26)
  have hR0 := hR.below hbel
  have hlt1 := block_lt hBr
  have hlt2 := block_lt hBl
  have hL : LowR w.heap.size rs := by
    intro r hr hp b off e
    obtain ⟨b', off', e', hlt, _⟩ := (hR.each r hr).2.2.2.cells hp
    rw [e] at e'
    injection e' with e'
    injection e' with e' _ _
    omega
  obtain ⟨L, hLL⟩ : ∃ L, w.heap.size = L := ⟨_, rfl⟩
  rw [hLL] at hb0 hsz hlt1 hlt2 hL
  have hbel2 : Below L w (w.alloc (.cells #[.slice none 0 0] 26)) := by rw [← hLL]; exact hbel
  simp only [hLL]
  generalize w.alloc (.cells #[.slice none 0 0] 26) = W0 at *
  refine range_stores hro h1 (gf := 26) (lb := #[.pointer (some ⟨Br, 0, none⟩), .pointer (some ⟨Bl, 0, none⟩)]) rfl f3 (enters_of Try.func26 (by kernel_rfl) rfl)
    (fun x : Int => #[.int .i64 x]) (fun _ => rfl) (KeepsM L) (fun h k => h.trans k) (fun W l o o' _ hl ho => keepsM_put L W l o o' hl ho)
    (fun pre W => (∃ v, AI L L pre W v) ∧ Below L w W) (OwnFrom.and AI.from (ownFrom_below (Nat.le_of_eq hLL.symm) (by omega)))
    (fun t => t = 26 ∨ t = 44) ?st ⟨⟨_, hb0, ⟨rfl, .inl ⟨rfl, rfl⟩⟩, .inl rfl⟩, hbel2⟩
    (fun x => { tmps := #[.func (.func 26) #[] #[.pointer (some ⟨Br, 0, none⟩), .pointer (some ⟨Bl, 0, none⟩)], undef, .slice none 0 0, .pointer (some ⟨L, 0, none⟩), .int .i64 x, .func (.func 26) #[] #[.pointer (some ⟨Br, 0, none⟩), .pointer (some ⟨Bl, 0, none⟩)], .int .i64 x, undef, undef, undef, undef, undef], defers := [] })
    ?assign (mergeA pAwake (nums rs)).length ?body (fun xs => xs = mergeA pAwake (nums rs)) ?hit ?done
  case st =>
    rintro pre W b i v cs t fr ⟨⟨u, hu⟩, hB⟩ hb hc ht
    have hti : t ≠ 3 := by rcases ht with rfl | rfl <;> decide
    refine ⟨⟨u, setCell_other hu.box (by omega) _, ownsRow_kept hu.row ((Only.refl (fun k => k = b) W).setCell _ _ (.inl rfl)) ?_, hu.nil⟩, hB.setCell (p := ⟨b, i, none⟩) (by show L ≤ b; omega) _⟩
    rintro k rfl hk
    exact hti (own_type hu.row hk hc).symm
  case assign =>
    intro l x W K hK
    gi_wp2
    exact hK
  case body =>
    rintro l pre x W ⟨⟨v, hv⟩, hB⟩ hlt
    have c0 := cell_of_blk (cs := [v]) hv.box 0
    have hle : L ≤ W.heap.size := by rw [← hLL]; exact Nat.le_trans (Nat.le_of_eq rfl) hB.size
    have hml := mergeA_length (p := pAwake) _ (nums rs) rfl
    have hrowa := hv.row.alloc (.cells #[.int .i64 x] 3)
    gi_wp2_with (gi_at_builtin; refine wpListIn_append_apart _ rfl _ _ 26 rfl L 3 i0 _ 1 8 Try.underlying26 hi hz0 hz1 hz2 rfl (by decide) v _ _ rfl hrowa ⟨W.heap.size, 0, none⟩ 1 1 [.int .i64 x] rfl rfl (World.news_of_block (cs := #[.int .i64 x]) (t := 3) (fr := (0, 0)) (alloc_new W _)) (by simp [Value.oneCell']) (by simp only [maxLen]; omega) (by omega) (by simp; omega) ?_; intro v' w1 row hown' hgrow hrw; obtain ⟨g', cap', rfl⟩ := ownsRow_succ hown'; have hap := appended hv (Nat.le_refl _) hle hown' hgrow hrw hv.lor; have hc1 : w1.cell? ⟨L, 0, none⟩ = some v := cell_of_blk (cs := [v]) hap.box1 0; have hf1 : w1.frozen? ⟨L, 0, none⟩ = false := free_of_blk (cs := [v]) hap.box1 0)
    exact ⟨hap.others.from _, hap.keep, ⟨_, hap.ai⟩, hB.trans hap.below⟩
  case hit =>
    intro l J W hW hAb hSt hY h0
    exact merge1Awake F HF (n - 1) (by omega) l Br Bl L hnr J W W.heap.size (Nat.le_refl _) (by have := hW.size; omega) hAb hSt _ rfl hY ((hW.block Br (block_lt hBr0)).trans hBr0) ((hW.block Bl (block_lt hBl0)).trans hBl0) (hR0.below hW) hL h0
  case done =>
    rintro D xs W hD rfl ⟨⟨v, hv⟩, hB⟩ hK
    have c0 := cell_of_blk (cs := [v]) hv.box 0
    gi_wp2
    refine ⟨by simp, .inl ⟨_, _, rfl, run_takeDeferred hK, ?_⟩⟩
    subst hLL
    refine ⟨_, results_tmp rfl _ _ _, v, rfl, ownsRow_putObj hv.row (.deferred none) hK rfl, hB.trans (belowK_b (w := w) (Nat.le_refl _) W D _ _ (by omega) hK rfl rfl)⟩
theorem allAwake {A : Option Addr} {nr c : Nat} {rs : List RowV} (hnr : nr ≤ 1000000) (hsum : sumL (nums rs) ≤ 1000000) (w : World) {Br Bl : Nat}
    (hBr : w.heap[Br]? = some (.cells #[.slice A nr c] 22 (0, 0))) (hBl : w.heap[Bl]? = some (.cells #[.func (.func 22) #[] #[]] 32 (0, 0)))
    (hR : RowsAt w A nr rs) :
    Calls Try.prog 11 #[.func (.func 26) #[] #[.pointer (some ⟨Br, 0, none⟩), .pointer (some ⟨Bl, 0, none⟩)]] w fun e W' => ∃ v, e = .returned v ∧ W'.ownsRow w.heap.size 3 1 v (mergeA pAwake (nums rs)).length (intCells (mergeA pAwake (nums rs))) ∧ Below w.heap.size w W' :=
  callsIn_wide.1 (all_ofAwake Fence.wide (Lib.hid rfl) 3 (by omega) Br Bl hnr hsum w hBr hBl hR)
end Go.Proofs.Ytmiijnemacgbiaa
