/- Chapter 6: Merge and All. (Printed by tupgen.py.) -/
import Derived.Test.YtmiijnemacgbiaaTupR
import Derived.Test.YtmiijnemacgbiaaSl2
import Derived.Laws.EntriesVeiled
namespace Go.Proofs.Ytmiijnemacgbiaa
open Go.RowKit Go.Shelf
set_option linter.unusedVariables false
set_option linter.unusedSimpArgs false
attribute [local go_sem] Oper.semAt_some

theorem RowsAt.reads {w : World} {A : Option Addr} {n c : Nat} {rs : List RowV} (h : RowsAt w A n rs) (ad : Addr) (hA : A = some ad) : Reads w 1 (.slice A n c) n (rowCells rs) := by
  refine ⟨by rw [rowCells, List.length_map, h.len, Nat.mul_one], fun u hu => rowCells_one hu, .inl ⟨ad, c, by rw [hA], fun j u hj => ?_⟩⟩
  have hj2 : j < rs.length := by
    have := (List.getElem?_eq_some_iff.1 hj).1
    rwa [rowCells, List.length_map] at this
  obtain ⟨b, off, h1, _, hc⟩ := h.cells (by rw [← h.len]; omega)
  rw [hA] at h1
  injection h1 with h1
  subst h1
  have := hc j _ (List.getElem?_eq_getElem hj2)
  rw [rowCells, List.getElem?_map, List.getElem?_eq_getElem hj2] at hj
  injection hj with hj
  rw [← hj]
  simpa [Addr.add_lit] using this
theorem row_nil (W : World) (c : Nat) : (binOp .eql 22 (.slice none 0 c) (.slice none 0 0)).run Try.prog W = .ok (.bool true) W := by kernel_rfl
theorem row_not_nil (W : World) (ad : Addr) (n c : Nat) : (binOp .eql 22 (.slice (some ad) n c) (.slice none 0 0)).run Try.prog W = .ok (.bool false) W := by kernel_rfl
set_option maxHeartbeats 2000000 in
theorem clone_any {w : World} {A : Option Addr} {n c : Nat} {rs : List RowV} (h : RowsAt w A n rs) (hn : n ≤ 1000000) :
    Calls Try.prog 27 #[.slice A n c] w fun e w' => ∃ v, e = .returned v ∧ w'.ownsRow w.heap.size 26 1 v n (rowCells rs) ∧ Below w.heap.size w w' := by
  have H := Lib.hid h
  have hl := h.len
  clear h
  obtain ⟨i0, hi, hz0, hz1, hz2⟩ := info_parts infoRow
  cases A with
  | none =>
    have hn0 : n = 0 := by
      rcases Nat.eq_zero_or_pos n with h | h
      · exact h
      · obtain ⟨b, off, h1, _⟩ := H.out.cells h
        cases h1
    subst hn0
    have hr0 : rs = [] := List.length_eq_zero_iff.1 hl
    subst hr0
    have hq := row_nil
    go_enter Try.func27, Try.ntmps27
    go_wp2_with fail
    go_ret
    exact ⟨_, rfl, ⟨rfl, .inl ⟨rfl, rfl⟩⟩, Below.refl _ _⟩
  | some ad =>
    have hb0 := bl_alloc (Below.refl _ w) (.cells #[] 26)
    have hr := (H.out.below hb0).reads (c := c) ad rfl
    have hnew := alloc_new w (.cells #[] 26)
    have hown : (w.alloc (.cells #[] 26)).ownsRow w.heap.size 26 1 (.slice (some ⟨w.heap.size, 0, none⟩) 0 0) 0 [] := ⟨rfl, .inr ⟨_, 0, #[], rfl, Nat.le_refl _, hnew, Nat.le_refl _, by decide, rfl, rfl⟩⟩
    have hsz : w.heap.size ≤ (w.alloc (.cells #[] 26)).heap.size := hb0.size
    have HB := Lib.hid hb0
    have HO := Lib.hid hown
    have HR := Lib.hid hr
    have hq := row_not_nil
    clear hb0 hnew hown hr hl
    go_enter Try.func27, Try.ntmps27
    go_wp2_with (at_builtin; refine wpList_append_reads _ rfl (.tmp 5) (.tmp 6) 22 rfl w.heap.size 26 i0 _ 1 24 Try.underlying22 hi hz0 hz1 hz2 rfl (by decide) _ 0 [] rfl HO.out _ n _ rfl HR.out (by simp only [maxLen]; omega) (by omega) hsz ?_; intro v8 w8 hown8 hgr8; have ho8 := only_grown (S := fun k => k = w.heap.size) (Only.refl _ _) hgr8 (fun k hk => .inl (by injection hk with hk; exact hk.symm)); have hb8 := bl_only HB.out ho8 (by rintro k rfl; exact Nat.le_refl _); rw [Nat.zero_add, List.nil_append] at hown8)
    go_ret
    exact ⟨_, rfl, hown8, hb8⟩
theorem mergeLess (A : Option Addr) (n c : Nat) (w : World) : Calls Try.prog 12 #[.func (.func 13) #[] #[], .slice A n c] w fun e w' => e = .returned (.func (.func 26) #[] #[.pointer (some ⟨w.heap.size + 1, 0, none⟩), .pointer (some ⟨w.heap.size, 0, none⟩)]) ∧ w' = (w.alloc (.cells #[.func (.func 13) #[] #[]] 32)).alloc (.cells #[.slice A n c] 22) := by
  go_enter Try.func12, Try.ntmps12
  go_wp2_with fail
  go_ret
  exact ⟨rfl, rfl⟩
theorem mergeAwake (A : Option Addr) (n c : Nat) (w : World) : Calls Try.prog 12 #[.func (.func 22) #[] #[], .slice A n c] w fun e w' => e = .returned (.func (.func 26) #[] #[.pointer (some ⟨w.heap.size + 1, 0, none⟩), .pointer (some ⟨w.heap.size, 0, none⟩)]) ∧ w' = (w.alloc (.cells #[.func (.func 22) #[] #[]] 32)).alloc (.cells #[.slice A n c] 22) := by
  go_enter Try.func12, Try.ntmps12
  go_wp2_with fail
  go_ret
  exact ⟨rfl, rfl⟩
theorem callsIn_of {F : Fence} (HF : Hid (F = Fence.wide)) {n : Nat} {P : Program} {f : FuncId} {args : Array Value} {w : World} {R : Ending → World → Prop} (h : Calls P f args w R) : CallsIn F n P f args w R := by
  have e := HF.out
  subst e
  exact callsIn_wide.2 h
theorem wpIn_plain {F : Fence} (HF : Hid (F = Fence.wide)) {n : Nat} {P : Program} {c : Code} {Q : Exit → Act → World → Prop} {a : Act} {w : World} (h : c.wp P Q a w) : c.wpIn F n P Q a w := by
  have e := HF.out
  subst e
  exact wpIn_wide.2 h
theorem grownBy_below (w w' : World) (h : Below w.heap.size w w') : w.grownBy w' none := ⟨h.os, h.tape, h.output, h.size, fun k hk _ => h.block k hk⟩
/-- What a round keeps: what lay ahead of the collector's box, and of what came behind it all but rows of numbers. -/
def KeepsM (B0 : Nat) (A B : World) : Prop := ∀ (k : Nat) (cs : Array Value) (t : TypeId) (fr : Nat × Nat), A.heap[k]? = some (.cells cs t fr) → (k < B0 ∨ B0 < k ∧ t ≠ 3) → B.heap[k]? = A.heap[k]?
theorem KeepsM.trans {B0 : Nat} {A B C : World} (h : KeepsM B0 A B) (k : KeepsM B0 B C) : KeepsM B0 A C := fun i cs t fr h1 h2 => by
  have e := h i cs t fr h1 h2
  exact (k i cs t fr (e.trans h1) h2).trans e
theorem keepsM_put (B0 : Nat) (W : World) (l : Nat) (o o' : Obj) (hl : W.heap[l]? = some o) (ho : o.isCells = false) : KeepsM B0 W (W.putObj l o') := fun k cs t fr h1 h2 => by
  refine World.putObj_heap_other ?_
  rintro rfl
  have := hl.symm.trans h1
  simp at this
  subst this
  cases ho
theorem cells_at_cell {w : World} {p : Addr} {v : Value} (h : w.cell? p = some v) : ∃ cs t fr, w.heap[p.block]? = some (.cells cs t fr) := by
  obtain ⟨o, ho, hc⟩ := cells_of_cell h
  cases o <;> first | exact ⟨_, _, _, ho⟩ | (cases hc)
theorem IntsAt.kept {w w' : World} {a : Option Addr} {n : Nat} {zs : List Int} (h : IntsAt w a n zs) (hk : 0 < n → ∀ b off cs t fr, a = some ⟨b, off, none⟩ → w.heap[b]? = some (.cells cs t fr) → w'.heap[b]? = w.heap[b]?) : IntsAt w' a n zs :=
  ⟨h.len, h.small, fun hp => by
    obtain ⟨b, off, rfl, hlt, hc⟩ := h.cells hp
    obtain ⟨cs, t, fr, ho⟩ := cells_at_cell (hc 0 hp)
    have e := hk hp b off cs t fr rfl ho
    exact ⟨b, off, rfl, block_lt (e.trans ho), fun i hi => (World.cell?_of_block e).trans (hc i hi)⟩, h.wf⟩
/-- A row without its first. -/
def RowV.tail (r : RowV) : RowV := ⟨if r.c = 1 then r.a else r.a.map (·.add 1), r.n - 1, r.c - 1, r.zs.drop 1⟩
theorem IntsAt.tail {w : World} {a : Option Addr} {n c : Nat} {zs : List Int} (h : IntsAt w a n zs) (hc : n ≤ c) : IntsAt w (if c = 1 then a else a.map (·.add 1)) (n - 1) (zs.drop 1) := by
  refine ⟨by rw [List.length_drop, h.len], by have := h.small; omega, fun hp => ?_, fun z hz => h.wf z (List.mem_of_mem_drop hz)⟩
  obtain ⟨b, off, rfl, hlt, hcs⟩ := h.cells (by omega)
  rw [if_neg (by omega)]
  refine ⟨b, off + 1, rfl, hlt, fun i hi => ?_⟩
  have := hcs (i + 1) (by omega)
  rw [show off + 1 + i = off + (i + 1) by omega, this]
  simp [List.getD_eq_getElem?_getD, List.getElem?_drop, Nat.add_comm]
def LowR (B0 : Nat) (rs : List RowV) : Prop := ∀ r ∈ rs, 0 < r.n → ∀ b off, r.a = some ⟨b, off, none⟩ → b < B0
theorem own_lt {w : World} {lo : Nat} {e : TypeId} {size : Nat} {v : Value} {n : Nat} {xs : List Value} (h : w.ownsRow lo e size v n xs) {k : Nat} (hk : v.ownBlock = some k) : k < w.heap.size := by
  rcases h.2 with ⟨rfl, _⟩ | ⟨g, cap, cur, rfl, _, hg, _⟩
  · cases hk
  · injection hk with hk; subst hk; exact block_lt hg
theorem own_type {w : World} {lo : Nat} {e : TypeId} {size : Nat} {v : Value} {n : Nat} {xs : List Value} (h : w.ownsRow lo e size v n xs) {k : Nat} (hk : v.ownBlock = some k) {cs : Array Value} {t : TypeId} {fr : Nat × Nat} (hb : w.heap[k]? = some (.cells cs t fr)) : e = t := by
  rcases h.2 with ⟨rfl, _⟩ | ⟨g, cap, cur, rfl, _, hg, _⟩
  · cases hk
  · injection hk with hk
    subst hk
    have := hg.symm.trans hb
    simp at this
    exact this.2.1
theorem blk_from (B k : Nat) (cs : Array Value) (t : TypeId) (fr : Nat × Nat) : OwnFrom B (fun (_ : Unit) (W : World) => W.heap[k]? = some (.cells cs t fr)) := fun _ W W' row h hg hr => by
  refine (hg.block k (block_lt h) ?_).trans h
  rintro e
  obtain ⟨_, o, ho, hc⟩ := hr k e.symm
  have := ho.symm.trans h
  simp at this
  subst this
  cases hc
theorem row_from (B lo : Nat) (e : TypeId) (size : Nat) (v : Value) (n : Nat) (xs : List Value) {W W' : World} {row : Option Nat} (h : W.ownsRow lo e size v n xs) (hg : W.grownBy W' row) (hr : ∀ r, row = some r → B ≤ r ∧ ∃ o : Obj, W.heap[r]? = some o ∧ o.isCells = false) : W'.ownsRow lo e size v n xs := by
  refine h.kept hg ?_
  rcases h.2 with ⟨rfl, _⟩ | ⟨g, cap, cur, rfl, _, hgb, _⟩
  · exact .inl rfl
  · refine .inr fun e' => ?_
    obtain ⟨_, o, ho, hc⟩ := hr g (by simpa [Value.ownBlock] using e'.symm)
    rw [hgb] at ho; cases ho; cases hc
def rowLen (w : World) (b o : Nat) : Nat := match w.cell? ⟨b, o, none⟩ with
  | some (.slice _ m _) => m
  | _ => 0
/-- How many numbers are left, as memory tells. -/
def memSum (w : World) (Hb : Nat) : Nat := match w.cell? ⟨Hb, 0, none⟩ with
  | some (.slice (some ad) n _) => ((List.range n).map fun i => rowLen w ad.block i).sum
  | _ => 0
/-- The iterator's own memory: the heads' box, its row of rows. -/
structure MS (wr : World) (B0 lo Hb : Nat) (f : FuncId) (qs : List RowV) (g : Option Addr) (n cap : Nat) : Prop where
  box : wr.heap[Hb]? = some (.cells #[.slice g n cap, .func (.func f) #[] #[]] 44 (0, 0))
  hb : lo ≤ Hb
  hlo : B0 < lo
  row : wr.ownsRow lo 26 1 (.slice g n cap) n (rowCells qs)
  rows : RowsAt wr g n qs
  low : LowR B0 qs
theorem own_same {w w' : World} {lo : Nat} {e : TypeId} {size : Nat} {A : Option Addr} {n c : Nat} {xs : List Value} (h : w.ownsRow lo e size (.slice A n c) n xs) (hk : ∀ b cs, lo ≤ b → w.heap[b]? = some (.cells cs e (0, 0)) → w'.heap[b]? = w.heap[b]?) : w'.ownsRow lo e size (.slice A n c) n xs := by
  refine ⟨h.1, ?_⟩
  rcases h.2 with h1 | ⟨g, cap, cur, h1, h2, h3, h4⟩
  · exact .inl h1
  · exact .inr ⟨g, cap, cur, h1, h2, (hk _ _ h2 h3).trans h3, h4⟩
theorem MS.of_keep {wr w2 : World} {B0 lo Hb : Nat} {f : FuncId} {qs : List RowV} {g : Option Addr} {n cap : Nat} (h : MS wr B0 lo Hb f qs g n cap) (hk : ∀ k cs t fr, wr.heap[k]? = some (.cells cs t fr) → (k < B0 ∨ lo ≤ k ∧ t ≠ 3) → w2.heap[k]? = wr.heap[k]?)
    (hl : ∀ r ∈ qs, 0 < r.n → ∀ b off cs t fr, r.a = some ⟨b, off, none⟩ → wr.heap[b]? = some (.cells cs t fr) → w2.heap[b]? = wr.heap[b]?) : MS w2 B0 lo Hb f qs g n cap := by
  have hrow : w2.ownsRow lo 26 1 (.slice g n cap) n (rowCells qs) := own_same h.row (fun b cs hb hc => hk b cs _ _ hc (.inr ⟨hb, by decide⟩))
  exact ⟨(hk _ _ _ _ h.box (.inr ⟨h.hb, by decide⟩)).trans h.box, h.hb, h.hlo, hrow, RowsAt.of_own hrow h.rows.small (fun r hr => by
    obtain ⟨h1, h2, h3, h4⟩ := h.rows.each r hr
    exact ⟨h1, h2, h3, h4.kept (hl r hr)⟩), h.low⟩
theorem MS.below {wr w2 : World} {B0 lo Hb : Nat} {f : FuncId} {qs : List RowV} {g : Option Addr} {n cap : Nat} (h : MS wr B0 lo Hb f qs g n cap) (hb : Below wr.heap.size wr w2) (hB : B0 ≤ wr.heap.size) : MS w2 B0 lo Hb f qs g n cap :=
  h.of_keep (fun k cs t fr hk _ => hb.block k (block_lt hk)) (fun r hr _ b off cs t fr e hc => hb.block b (block_lt hc))
theorem MS.sum {w : World} {B0 lo Hb : Nat} {f : FuncId} {qs : List RowV} {g : Option Addr} {n cap : Nat} (h : MS w B0 lo Hb f qs g n cap) : memSum w Hb = sumL (nums qs) := by
  have x0 : w.cell? ⟨Hb, 0, none⟩ = some (.slice g n cap) := cell_of_blk (cs := [.slice g n cap, .func (.func f) #[] #[]]) h.box 0
  unfold memSum
  rw [x0]
  rcases Nat.eq_zero_or_pos n with rfl | hp
  · have : qs = [] := List.length_eq_zero_iff.1 h.rows.len
    subst this
    cases g <;> rfl
  · obtain ⟨X, rfl, _, _, _, hc⟩ := own_some h.row hp
    show ((List.range n).map fun i => rowLen w X i).sum = (((qs.map (·.zs))).map List.length).sum
    congr 1
    rw [List.map_map]
    refine List.ext_getElem? fun i => ?_
    by_cases hi : i < n
    · have hq : i < qs.length := by rw [h.rows.len]; exact hi
      have hq2 := List.getElem?_eq_getElem hq
      have hci := hc i _ (by unfold rowCells; rw [List.getElem?_map, hq2]; rfl)
      have hln := (h.rows.each _ (List.getElem_mem hq)).2.2.2.len
      simp [hi, hq2, rowLen, hci, hln]
    · have hq : qs.length ≤ i := by rw [h.rows.len]; omega
      simp [hi, hq]
theorem ms_new {W w2 : World} {B0 lo Hb : Nat} {f : FuncId} {A g : Option Addr} {nr cap : Nat} {rs : List RowV} (hR : RowsAt W A nr rs) (hb : Below W.heap.size W w2) (hbox : w2.heap[Hb]? = some (.cells #[.slice g nr cap, .func (.func f) #[] #[]] 44 (0, 0))) (hHb : lo ≤ Hb) (hrow : w2.ownsRow lo 26 1 (.slice g nr cap) nr (rowCells rs)) (hL : LowR B0 rs) (hlo2 : B0 < lo) : MS w2 B0 lo Hb f rs g nr cap :=
  ⟨hbox, hHb, hlo2, hrow, RowsAt.of_own hrow hR.small (fun r hr => by
    obtain ⟨h1, h2, h3, h4⟩ := hR.each r hr
    exact ⟨h1, h2, h3, h4.below hb⟩), hL⟩
theorem ms_set {W w1 : World} {B0 lo Hb : Nat} {f : FuncId} {A g : Option Addr} {nr cap : Nat} {rs : List RowV} {u v : Value} (hR : RowsAt W A nr rs) (hb : Below W.heap.size W w1) (hHW : W.heap.size ≤ Hb) (xb : w1.heap[Hb]? = some (.cells #[u, v] 44 (0, 0))) (hHb : lo ≤ Hb) (hrow : w1.ownsRow lo 26 1 (.slice g nr cap) nr (rowCells rs)) (hL : LowR B0 rs) (hlo2 : B0 < lo) :
    MS ((w1.setCell ⟨Hb, 0, none⟩ (.slice g nr cap)).setCell ⟨Hb, 1, none⟩ (.func (.func f) #[] #[])) B0 lo Hb f rs g nr cap := by
  have ho : Only (fun k => k = Hb) w1 ((w1.setCell ⟨Hb, 0, none⟩ (.slice g nr cap)).setCell ⟨Hb, 1, none⟩ (.func (.func f) #[] #[])) := ((Only.refl (fun k => k = Hb) w1).setCell _ _ (.inl rfl)).setCell _ _ (.inl rfl)
  refine ms_new hR (bl_set (bl_set hb _ _ hHW) _ _ hHW) (setCell_same (cs := [.slice g nr cap, v]) (setCell_same (cs := [u, v]) xb _) _) hHb (ownsRow_kept hrow ho ?_) hL hlo2
  rintro k rfl hk
  exact absurd (own_type hrow hk xb) (by decide)
theorem rowCells_set (qs : List RowV) (B : Nat) (t : RowV) : (rowCells qs).set B (.slice t.a t.n t.c) = rowCells (qs.set B t) := by unfold rowCells; rw [List.map_set]
theorem nums_left {qs : List RowV} {B : Nat} {r : RowV} (h : qs[B]? = some r) : nums (qs.set B r.tail) = leftI (nums qs) B := by
  unfold leftI
  rw [nums_getD h]
  unfold nums
  rw [List.map_set]
  rfl
theorem MS.store {wr : World} {B0 lo Hb X B : Nat} {f : FuncId} {qs : List RowV} {n cap : Nat} {r : RowV} (h : MS wr B0 lo Hb f qs (some ⟨X, 0, none⟩) n cap) (hr : qs[B]? = some r) {gb go : Nat} (ha : r.a = some ⟨gb, go, none⟩) :
    MS (wr.setCell ⟨X, B, none⟩ (.slice r.tail.a r.tail.n r.tail.c)) B0 lo Hb f (qs.set B r.tail) (some ⟨X, 0, none⟩) n cap := by
  have hX : lo ≤ X := own_block h.row rfl
  have hne : Hb ≠ X := by
    intro e
    subst e
    have ht := own_type h.row (k := Hb) (by rfl) h.box
    exact absurd ht (by decide)
  have hrow := ownsRow_set h.row B (.slice r.tail.a r.tail.n r.tail.c)
  rw [rowCells_set] at hrow
  have hlow : LowR B0 (qs.set B r.tail) := by
    intro q hq hp b off e
    rcases List.mem_or_eq_of_mem_set hq with hq | rfl
    · exact h.low q hq hp b off e
    · obtain ⟨ra, rn, rc, rz⟩ := r
      have hm := h.low _ (List.mem_of_getElem? hr) (by have hp : 0 < rn - 1 := hp; show 0 < rn; omega)
      by_cases hc : rc = 1
      · have e' : ra = some ⟨b, off, none⟩ := by simpa [RowV.tail, hc] using e
        exact hm b off e'
      · dsimp only at ha
        subst ha
        have e2 : some (⟨gb, go + 1, none⟩ : Addr) = some (⟨b, off, none⟩ : Addr) := by
          rw [← e]
          simp [RowV.tail, hc]
          rfl
        injection e2 with e2
        injection e2 with e2 _ _
        subst e2
        exact hm gb go rfl
  refine ⟨setCell_other h.box hne _, h.hb, h.hlo, hrow, RowsAt.of_own hrow h.rows.small (fun q hq => ?_), hlow⟩
  have hk : ∀ {a : Option Addr} {m : Nat} {zs : List Int}, (0 < m → ∀ b off, a = some ⟨b, off, none⟩ → b < B0) → IntsAt wr a m zs → IntsAt (wr.setCell ⟨X, B, none⟩ (.slice r.tail.a r.tail.n r.tail.c)) a m zs := fun hb hi =>
    hi.kept (fun hp b off cs t fr e hc => Below.heap_setCell wr ⟨X, B, none⟩ _ b (by have := hb hp b off e; have := h.hlo; show b ≠ X; omega))
  rcases List.mem_or_eq_of_mem_set hq with hq | rfl
  · obtain ⟨h1, h2, h3, h4⟩ := h.rows.each q hq
    exact ⟨h1, h2, h3, hk (h.low q hq) h4⟩
  · have hrm := List.mem_of_getElem? hr
    obtain ⟨h1, h2, h3, h4⟩ := h.rows.each r hrm
    refine ⟨by show r.n - 1 ≤ r.c - 1; omega, by show r.c - 1 ≤ maxLen; omega, fun e => ?_, hk (hlow _ hq) (h4.tail h1)⟩
    show r.n - 1 = 0 ∧ r.c - 1 = 0
    obtain ⟨ra, rn, rc, rz⟩ := r
    by_cases hc : rc = 1
    · have e' : ra = none := by simpa [RowV.tail, hc] using e
      have := h3 e'
      dsimp only at this ⊢
      omega
    · cases ra with
      | none =>
        have := h3 rfl
        dsimp only at this ⊢
        omega
      | some ad => simp [RowV.tail, hc] at e
theorem sb_of {W w' : World} {Br Bl : Nat} {x y : Value} {t u : TypeId} (hBr : W.heap[Br]? = some (.cells #[x] t (0, 0))) (hBl : W.heap[Bl]? = some (.cells #[y] u (0, 0))) (hb : Below W.heap.size W w') : w'.cell? ⟨Br, 0, none⟩ = some x ∧ w'.cell? ⟨Bl, 0, none⟩ = some y :=
  ⟨cell_of_blk (cs := [x]) ((hb.block Br (block_lt hBr)).trans hBr) 0, cell_of_blk (cs := [y]) ((hb.block Bl (block_lt hBl)).trans hBl) 0⟩
set_option maxRecDepth 100000 in
set_option maxHeartbeats 4000000 in
theorem merge1Less (F : Fence) (HF : Hid (F = Fence.wide)) (n : Nat) (hn : 1 ≤ n) (l Br Bl B0 : Nat) {A : Option Addr} {nr c : Nat} {rs : List RowV} (hnr : nr ≤ 1000000) (J : List Int → World → Prop) (W : World) (lo : Nat) (hlo : lo ≤ W.heap.size) (hlo2 : B0 < lo)
    (hAb : AbidesFrom lo J) (hSt : StandsSt lo (fun t => t = 26 ∨ t = 44) J)
    (N : Nat) (hN : (mergeA pLess (nums rs)).length = N) (hY : ∀ pre x W1, J pre W1 → pre.length < N → YieldAt F (n - 1) Try.prog l #[.int .i64 x] W1 fun e W' => e = .returned (.bool true) ∧ J (pre ++ [x]) W' ∧ KeepsM B0 W1 W')
    (hBr : W.heap[Br]? = some (.cells #[.slice A nr c] 22 (0, 0))) (hBl : W.heap[Bl]? = some (.cells #[.func (.func 13) #[] #[]] 32 (0, 0)))
    (hR : RowsAt W A nr rs) (hL : LowR B0 rs) (h0 : J [] W) :
    CallsIn F n Try.prog 26 #[.func (.yield l) #[] #[], .pointer (some ⟨Br, 0, none⟩), .pointer (some ⟨Bl, 0, none⟩)] W fun e W' => (∃ v, e = .returned v) ∧ ∃ xs, xs = mergeA pLess (nums rs) ∧ J xs W' := by
  have hro : F.round = none := by rw [HF.out]; rfl
  have h1 : F.fn 26 := by rw [HF.out]; trivial
  have h2 : F.fn 28 := by rw [HF.out]; trivial
  have h3 : F.fn 27 := by rw [HF.out]; trivial
  refine callsIn_of_wp Try.func26 rfl h1 ?_ hro
  simp only [Try.ntmps26, List.size_toArray, List.length_cons, List.length_nil, Nat.reduceAdd, Nat.reduceSub, Array.replicate_succ, Array.replicate_zero, List.push_toArray, List.append_toArray, List.nil_append, List.cons_append]
  gi_wp2
  have kA : Below W.heap.size W W.drew := bl_drew (Below.refl _ _)
  have SB := fun w' hb => Lib.hid (sb_of (w' := w') hBr hBl hb)
  have HRA := Lib.hid (hR.below kA)
  have HRB := Lib.hid (hR.below (bl_alloc kA (.cells #[.slice none 0 0, .nilFunc] 44)))
  have HR := Lib.hid hR
  have HBR := Lib.hid hBr
  have HBL := Lib.hid hBl
  clear hR hBr hBl
  refine wpIn_plain HF (Code.wp_mono (Q := fun e a w' => e = .normal ∧ ∃ Hb g cap, a = { tmps := #[.func (.yield l) #[] #[], .pointer (some ⟨Br, 0, none⟩), .pointer (some ⟨Bl, 0, none⟩), undef, .pointer (some ⟨Hb, 0, none⟩), undef, .slice A nr c, .slice g nr cap, .func (.func 13) #[] #[], .agg #[.slice g nr cap, .func (.func 13) #[] #[]], undef, undef, undef, undef, undef, undef, undef, undef, undef, undef, undef, undef, undef, undef, undef, undef, undef, undef, undef, undef, undef, undef, undef, undef, undef, undef], defers := [] } ∧ MS w' B0 lo Hb 13 rs g nr cap ∧ Below W.heap.size W w') ?imp ?reg)
  case reg =>
    go_region_held3 (fun w' => w'.cell? ⟨Br, 0, none⟩ = some (.slice A nr c) ∧ w'.cell? ⟨Bl, 0, none⟩ = some (.func (.func 13) #[] #[])) (first | exact (SB _ kA).out | exact (SB _ (bl_alloc kA _)).out | exact (SB _ k1).out | exact (SB _ (bl_alloc k1 _)).out | exact (SB _ (bl_set (bl_set k1 _ _ (by simp)) _ _ (by simp))).out | exact (SB _ (bl_set (bl_set (bl_alloc k1 _) _ _ k1.size) _ _ k1.size)).out) (first
      | (go_at_call 27; refine (clone_any (by first | exact HRA.out | exact HRB.out) hnr).mono ?_; rintro e w1 ⟨v, rfl, hown1, hb1⟩; obtain ⟨g, cap, rfl⟩ := own_form hown1; have k1 := bl_then (by first | exact kA | exact bl_alloc kA _) hb1; have y1 := cell_of_blk (alloc_new w1 (.cells #[.slice g nr cap, .nilFunc] 44)) 1; have z1 := free_of_blk (alloc_new w1 (.cells #[.slice g nr cap, .nilFunc] 44)) 1; (first | (have xb : w1.heap[W.heap.size]? = some (.cells #[.slice none 0 0, .nilFunc] 44 (0, 0)) := (hb1.block _ (block_lt (alloc_new W.drew (.cells #[.slice none 0 0, .nilFunc] 44)))).trans (alloc_new _ _); have x0 : w1.cell? ⟨W.heap.size, 0, none⟩ = some (.slice none 0 0) := cell_of_blk xb 0; have x1 : w1.cell? ⟨W.heap.size, 1, none⟩ = some .nilFunc := cell_of_blk xb 1; have xf0 : w1.frozen? ⟨W.heap.size, 0, none⟩ = false := free_of_blk xb 0; have xf1 : w1.frozen? ⟨W.heap.size, 1, none⟩ = false := free_of_blk xb 1) | skip)))
    · exact ⟨rfl, _, _, _, rfl, ms_new HR.out (bl_alloc k1 _) (alloc_new w1 _) (Nat.le_trans hlo k1.size) ((ownsRow_base hown1 hlo).alloc _) hL hlo2, bl_alloc k1 _⟩
    · exact ⟨rfl, _, _, _, rfl, ms_set HR.out k1 (Nat.le_refl _) xb hlo (ownsRow_base hown1 (Nat.le_trans hlo (by simp))) hL hlo2, bl_set (bl_set k1 _ _ (Nat.le_refl _)) _ _ (Nat.le_refl _)⟩
  case imp =>
    rintro e a w' ⟨rfl, Hb, g, cap, rfl, hms, hbe⟩
    have hJ : J [] w' := hAb _ _ _ none h0 (grownBy_below _ _ hbe) (fun _ e => by cases e)
    have x0 := cell_of_blk hms.box 0
    have x1 := cell_of_blk hms.box 1
    have hlw : lo ≤ w'.heap.size := Nat.le_trans hlo hbe.size
    have hBW : B0 ≤ w'.heap.size := by omega
    have HM := Lib.hid hms
    have HJ := Lib.hid hJ
    clear hms hJ h0 SB HRA HRB HR HBR HBL kA hbe
    gi_wp2_with (gi_at_call 28; refine (callsIn_of HF (bestLess HM.out.rows)).mono ?_; rintro e w2 ⟨rfl, hb2⟩)
    have hbs := HM.out.below hb2 hBW
    have hJ2 : J [] w2 := hAb _ _ _ none HJ.out (grownBy_below _ _ hb2) (fun _ e => by cases e)
    have hlw2 : lo ≤ w2.heap.size := Nat.le_trans hlw hb2.size
    have HM2 := Lib.hid hbs
    have HJ2 := Lib.hid hJ2
    clear hbs hJ2 HM HJ x0 x1 hb2 hlw hBW
    gi_loopw [5] (fun i wr => ∃ (qs : List RowV) (pre : List Int), i = .int .i64 (bestI pLess (nums qs)) ∧ Hid (pre ++ mergeA pLess (nums qs) = mergeA pLess (nums rs)) ∧ J pre wr ∧ MS wr B0 lo Hb 13 qs g nr cap ∧ lo ≤ wr.heap.size) (fun i wr => memSum wr Hb)
    case atStart => exact ⟨rs, [], rfl, Lib.hid rfl, HJ2.out, HM2.out, hlw2⟩
    case round =>
      obtain ⟨qs, pre, rfl, hpre, hJs, hms, hlr⟩ := hrel
      have hlq : (nums qs).length = nr := by rw [nums_length]; exact hms.rows.len
      by_cases hneg : bestI pLess (nums qs) < 0
      · have hend := mergeA_end hneg
        have hp := hpre.out
        rw [hend, List.append_nil] at hp
        generalize bestI pLess (nums qs) = b at *
        have i0 : ¬ (0 : Int) ≤ b := by omega
        have HJ := Lib.hid hJs
        have HP := Lib.hid hp
        clear hJs hp hpre hend hms
        gi_wp2
        try simp only [Exit.noGoto]
        go_end0
        exact ⟨⟨_, rfl⟩, by rw [← HP.out]; exact HJ.out⟩
      · obtain ⟨B, hB1, hB2, hB3⟩ := best_some hneg
        have hstep := mergeA_step hB2 hB3
        have hBq : B < qs.length := by rw [← nums_length]; exact hB1
        obtain ⟨r, hr1⟩ : ∃ r, qs[B]? = some r := ⟨_, List.getElem?_eq_getElem hBq⟩
        have hg1 := nums_getD hr1
        rw [hg1] at hstep hB3
        obtain ⟨X, rfl, _, _, _, hcs⟩ := own_some hms.row (by omega)
        have c1 : wr.cell? ⟨X, B, none⟩ = some (.slice r.a r.n r.c) := hcs B _ (by unfold rowCells; rw [List.getElem?_map, hr1]; rfl)
        obtain ⟨r1, r2, r3, r4⟩ := hms.rows.each r (List.mem_of_getElem? hr1)
        have hln := r4.len
        obtain ⟨ra, rn, rc, rz⟩ := r
        dsimp only at c1 r1 r2 r3 r4 hln hstep hB3
        obtain ⟨gb, go, rfl, y1⟩ := r4.head (by omega)
        have x0 := cell_of_blk hms.box 0
        rw [hB2]
        have iB : (B : Int) < nr := by omega
        have iB0 : (0 : Int) ≤ B := by omega
        have irn : (0 : Int) < rn := by omega
        have hplen : pre.length < N := by
          have := congrArg List.length hpre.out
          rw [hstep, hN, List.length_append, List.length_cons] at this
          omega
        have hy0 := hY pre (headI rz) wr hJs hplen
        clear hplen
        obtain ⟨fn, tmps, assign, body, hy, hRd⟩ := hy0
        generalize headI rz = hx at *
        have HSUM := Lib.hid hms.sum
        have HSL := Lib.hid (sumL_left (ls := nums qs) (B := B) (by rw [hg1]; exact hB3))
        have HS := Lib.hid hstep
        have HM3 := Lib.hid hms
        have HR1 := Lib.hid hr1
        have HJ3 := Lib.hid hJs
        clear hstep hms hr1 hJs hg1 hcs hB2 hneg
        gi_wp2
        refine hRd.mono ?_
        rintro e W3 ⟨rfl, hJ4, hk3⟩
        have hms3 := HM3.out.of_keep (w2 := W3) (fun k cs t fr hk hc => hk3 k cs t fr hk (by rcases hc with h | ⟨h, h'⟩; exact .inl h; exact .inr ⟨by have := HM3.out.hlo; omega, h'⟩)) (fun r hr hp b off cs t fr e hc => hk3 b cs t fr hc (.inl (HM3.out.low r hr hp b off e)))
        have x3 := cell_of_blk hms3.box 0
        obtain ⟨X', hX', _, _, _, hcs⟩ := own_some hms3.row (by omega)
        injection hX' with hX'
        injection hX' with hX' _ _
        subst hX'
        have c3 : W3.cell? ⟨X, B, none⟩ = some (.slice (some ⟨gb, go, none⟩) rn rc) := hcs B _ (by unfold rowCells; rw [List.getElem?_map, HR1.out]; rfl)
        have f3 := own_free hms3.row B
        have HM4 := Lib.hid hms3
        have HJ4 := Lib.hid hJ4
        have irc : (1 : Int) ≤ rn := by omega
        have irc2 : (rn : Int) ≤ rc := by omega
        clear hms3 hJ4 hk3 hcs HM3 x0 c1 y1 HJ3 hRd hy
        gi_wp2
        refine wpIn_plain HF ?_
        go_still_tail 10, (by kernel_rfl)
        obtain ⟨tr, htr⟩ : ∃ tr, RowV.tail ⟨some ⟨gb, go, none⟩, rn, rc, rz⟩ = tr := ⟨_, rfl⟩
        have htv : Value.slice (if rc = 1 then some ⟨gb, go, none⟩ else some ⟨gb, go + 1, none⟩) (rn - 1) (rc - 1) = .slice tr.a tr.n tr.c := by rw [← htr]; rfl
        rw [htv]
        change wpList _ _ _ _ _ W3.drew
        have hms5 := (HM4.out.below (bl_drew (Below.refl _ W3)) (by have := HM4.out.hlo; have := HM4.out.hb; have := block_lt HM4.out.box; omega)).store HR1.out rfl
        have hJ5 : J (pre ++ [hx]) W3.drew := hAb _ _ _ none HJ4.out (grownBy_below _ _ (bl_drew (Below.refl _ W3))) (fun _ e => by cases e)
        obtain ⟨csX, hX⟩ : ∃ csX, W3.drew.heap[X]? = some (.cells csX 26 (0, 0)) := by
          rcases HM4.out.row.2 with ⟨h, _⟩ | ⟨g', cap', cur, h, _, h3, _⟩
          · cases h
          · injection h with h _ _
            injection h with h
            injection h with h _ _
            subst h
            exact ⟨cur, h3⟩
        have hJ6 := hSt _ _ X B (.slice tr.a tr.n tr.c) _ _ _ hJ5 (own_block HM4.out.row rfl) hX (.inl rfl)
        have hnl := nums_left HR1.out
        rw [htr] at hms5 hnl
        have c4 : W3.drew.cell? ⟨X, B, none⟩ = some (.slice (some ⟨gb, go, none⟩) rn rc) := c3
        have f4 : W3.drew.frozen? ⟨X, B, none⟩ = false := f3
        have hlr4 : lo ≤ W3.drew.heap.size := by have := HM4.out.hb; have := block_lt HM4.out.box; show lo ≤ W3.heap.size; omega
        have HM5 := Lib.hid hms5
        have HJ6 := Lib.hid hJ6
        have HNL := Lib.hid hnl
        clear hms5 hJ5 hJ6 hnl hX c3 f3 x3 htv htr HM4 HJ4
        generalize W3.drew = W4 at *
        go_wp2
        generalize W4.setCell ⟨X, B, none⟩ (.slice tr.a tr.n tr.c) = W5 at *
        have x5 := cell_of_blk HM5.out.box 0
        have x6 := cell_of_blk HM5.out.box 1
        have hBW5 : B0 ≤ W5.heap.size := by have := HM5.out.hlo; have := HM5.out.hb; have := block_lt HM5.out.box; omega
        gi_wp2_with (gi_at_call 28; refine (callsIn_of HF (bestLess HM5.out.rows)).mono ?_; rintro e W6 ⟨rfl, hb6⟩)
        have hms6 := HM5.out.below hb6 hBW5
        have hJ7 : J (pre ++ [hx]) W6 := hAb _ _ _ none HJ6.out (grownBy_below _ _ hb6) (fun _ e => by cases e)
        go_roundw
        case rel => exact ⟨qs.set B tr, pre ++ [hx], rfl, Lib.hid (by rw [HNL.out, List.append_assoc, List.singleton_append, ← HS.out]; exact hpre.out), hJ7, hms6, by have := hms6.hb; have := block_lt hms6.box; omega⟩
        case measure =>
          rw [hms6.sum, HSUM.out, HNL.out]
          have := HSL.out
          omega
set_option maxRecDepth 100000 in
set_option maxHeartbeats 4000000 in
theorem merge1Awake (F : Fence) (HF : Hid (F = Fence.wide)) (n : Nat) (hn : 1 ≤ n) (l Br Bl B0 : Nat) {A : Option Addr} {nr c : Nat} {rs : List RowV} (hnr : nr ≤ 1000000) (J : List Int → World → Prop) (W : World) (lo : Nat) (hlo : lo ≤ W.heap.size) (hlo2 : B0 < lo)
    (hAb : AbidesFrom lo J) (hSt : StandsSt lo (fun t => t = 26 ∨ t = 44) J)
    (N : Nat) (hN : (mergeA pAwake (nums rs)).length = N) (hY : ∀ pre x W1, J pre W1 → pre.length < N → YieldAt F (n - 1) Try.prog l #[.int .i64 x] W1 fun e W' => e = .returned (.bool true) ∧ J (pre ++ [x]) W' ∧ KeepsM B0 W1 W')
    (hBr : W.heap[Br]? = some (.cells #[.slice A nr c] 22 (0, 0))) (hBl : W.heap[Bl]? = some (.cells #[.func (.func 22) #[] #[]] 32 (0, 0)))
    (hR : RowsAt W A nr rs) (hL : LowR B0 rs) (h0 : J [] W) :
    CallsIn F n Try.prog 26 #[.func (.yield l) #[] #[], .pointer (some ⟨Br, 0, none⟩), .pointer (some ⟨Bl, 0, none⟩)] W fun e W' => (∃ v, e = .returned v) ∧ ∃ xs, xs = mergeA pAwake (nums rs) ∧ J xs W' := by
  have hro : F.round = none := by rw [HF.out]; rfl
  have h1 : F.fn 26 := by rw [HF.out]; trivial
  have h2 : F.fn 28 := by rw [HF.out]; trivial
  have h3 : F.fn 27 := by rw [HF.out]; trivial
  refine callsIn_of_wp Try.func26 rfl h1 ?_ hro
  simp only [Try.ntmps26, List.size_toArray, List.length_cons, List.length_nil, Nat.reduceAdd, Nat.reduceSub, Array.replicate_succ, Array.replicate_zero, List.push_toArray, List.append_toArray, List.nil_append, List.cons_append]
  gi_wp2
  have kA : Below W.heap.size W W.drew := bl_drew (Below.refl _ _)
  have SB := fun w' hb => Lib.hid (sb_of (w' := w') hBr hBl hb)
  have HRA := Lib.hid (hR.below kA)
  have HRB := Lib.hid (hR.below (bl_alloc kA (.cells #[.slice none 0 0, .nilFunc] 44)))
  have HR := Lib.hid hR
  have HBR := Lib.hid hBr
  have HBL := Lib.hid hBl
  clear hR hBr hBl
  refine wpIn_plain HF (Code.wp_mono (Q := fun e a w' => e = .normal ∧ ∃ Hb g cap, a = { tmps := #[.func (.yield l) #[] #[], .pointer (some ⟨Br, 0, none⟩), .pointer (some ⟨Bl, 0, none⟩), undef, .pointer (some ⟨Hb, 0, none⟩), undef, .slice A nr c, .slice g nr cap, .func (.func 22) #[] #[], .agg #[.slice g nr cap, .func (.func 22) #[] #[]], undef, undef, undef, undef, undef, undef, undef, undef, undef, undef, undef, undef, undef, undef, undef, undef, undef, undef, undef, undef, undef, undef, undef, undef, undef, undef], defers := [] } ∧ MS w' B0 lo Hb 22 rs g nr cap ∧ Below W.heap.size W w') ?imp ?reg)
  case reg =>
    go_region_held3 (fun w' => w'.cell? ⟨Br, 0, none⟩ = some (.slice A nr c) ∧ w'.cell? ⟨Bl, 0, none⟩ = some (.func (.func 22) #[] #[])) (first | exact (SB _ kA).out | exact (SB _ (bl_alloc kA _)).out | exact (SB _ k1).out | exact (SB _ (bl_alloc k1 _)).out | exact (SB _ (bl_set (bl_set k1 _ _ (by simp)) _ _ (by simp))).out | exact (SB _ (bl_set (bl_set (bl_alloc k1 _) _ _ k1.size) _ _ k1.size)).out) (first
      | (go_at_call 27; refine (clone_any (by first | exact HRA.out | exact HRB.out) hnr).mono ?_; rintro e w1 ⟨v, rfl, hown1, hb1⟩; obtain ⟨g, cap, rfl⟩ := own_form hown1; have k1 := bl_then (by first | exact kA | exact bl_alloc kA _) hb1; have y1 := cell_of_blk (alloc_new w1 (.cells #[.slice g nr cap, .nilFunc] 44)) 1; have z1 := free_of_blk (alloc_new w1 (.cells #[.slice g nr cap, .nilFunc] 44)) 1; (first | (have xb : w1.heap[W.heap.size]? = some (.cells #[.slice none 0 0, .nilFunc] 44 (0, 0)) := (hb1.block _ (block_lt (alloc_new W.drew (.cells #[.slice none 0 0, .nilFunc] 44)))).trans (alloc_new _ _); have x0 : w1.cell? ⟨W.heap.size, 0, none⟩ = some (.slice none 0 0) := cell_of_blk xb 0; have x1 : w1.cell? ⟨W.heap.size, 1, none⟩ = some .nilFunc := cell_of_blk xb 1; have xf0 : w1.frozen? ⟨W.heap.size, 0, none⟩ = false := free_of_blk xb 0; have xf1 : w1.frozen? ⟨W.heap.size, 1, none⟩ = false := free_of_blk xb 1) | skip)))
    · exact ⟨rfl, _, _, _, rfl, ms_new HR.out (bl_alloc k1 _) (alloc_new w1 _) (Nat.le_trans hlo k1.size) ((ownsRow_base hown1 hlo).alloc _) hL hlo2, bl_alloc k1 _⟩
    · exact ⟨rfl, _, _, _, rfl, ms_set HR.out k1 (Nat.le_refl _) xb hlo (ownsRow_base hown1 (Nat.le_trans hlo (by simp))) hL hlo2, bl_set (bl_set k1 _ _ (Nat.le_refl _)) _ _ (Nat.le_refl _)⟩
  case imp =>
    rintro e a w' ⟨rfl, Hb, g, cap, rfl, hms, hbe⟩
    have hJ : J [] w' := hAb _ _ _ none h0 (grownBy_below _ _ hbe) (fun _ e => by cases e)
    have x0 := cell_of_blk hms.box 0
    have x1 := cell_of_blk hms.box 1
    have hlw : lo ≤ w'.heap.size := Nat.le_trans hlo hbe.size
    have hBW : B0 ≤ w'.heap.size := by omega
    have HM := Lib.hid hms
    have HJ := Lib.hid hJ
    clear hms hJ h0 SB HRA HRB HR HBR HBL kA hbe
    gi_wp2_with (gi_at_call 28; refine (callsIn_of HF (bestAwake HM.out.rows)).mono ?_; rintro e w2 ⟨rfl, hb2⟩)
    have hbs := HM.out.below hb2 hBW
    have hJ2 : J [] w2 := hAb _ _ _ none HJ.out (grownBy_below _ _ hb2) (fun _ e => by cases e)
    have hlw2 : lo ≤ w2.heap.size := Nat.le_trans hlw hb2.size
    have HM2 := Lib.hid hbs
    have HJ2 := Lib.hid hJ2
    clear hbs hJ2 HM HJ x0 x1 hb2 hlw hBW
    gi_loopw [5] (fun i wr => ∃ (qs : List RowV) (pre : List Int), i = .int .i64 (bestI pAwake (nums qs)) ∧ Hid (pre ++ mergeA pAwake (nums qs) = mergeA pAwake (nums rs)) ∧ J pre wr ∧ MS wr B0 lo Hb 22 qs g nr cap ∧ lo ≤ wr.heap.size) (fun i wr => memSum wr Hb)
    case atStart => exact ⟨rs, [], rfl, Lib.hid rfl, HJ2.out, HM2.out, hlw2⟩
    case round =>
      obtain ⟨qs, pre, rfl, hpre, hJs, hms, hlr⟩ := hrel
      have hlq : (nums qs).length = nr := by rw [nums_length]; exact hms.rows.len
      by_cases hneg : bestI pAwake (nums qs) < 0
      · have hend := mergeA_end hneg
        have hp := hpre.out
        rw [hend, List.append_nil] at hp
        generalize bestI pAwake (nums qs) = b at *
        have i0 : ¬ (0 : Int) ≤ b := by omega
        have HJ := Lib.hid hJs
        have HP := Lib.hid hp
        clear hJs hp hpre hend hms
        gi_wp2
        try simp only [Exit.noGoto]
        go_end0
        exact ⟨⟨_, rfl⟩, by rw [← HP.out]; exact HJ.out⟩
      · obtain ⟨B, hB1, hB2, hB3⟩ := best_some hneg
        have hstep := mergeA_step hB2 hB3
        have hBq : B < qs.length := by rw [← nums_length]; exact hB1
        obtain ⟨r, hr1⟩ : ∃ r, qs[B]? = some r := ⟨_, List.getElem?_eq_getElem hBq⟩
        have hg1 := nums_getD hr1
        rw [hg1] at hstep hB3
        obtain ⟨X, rfl, _, _, _, hcs⟩ := own_some hms.row (by omega)
        have c1 : wr.cell? ⟨X, B, none⟩ = some (.slice r.a r.n r.c) := hcs B _ (by unfold rowCells; rw [List.getElem?_map, hr1]; rfl)
        obtain ⟨r1, r2, r3, r4⟩ := hms.rows.each r (List.mem_of_getElem? hr1)
        have hln := r4.len
        obtain ⟨ra, rn, rc, rz⟩ := r
        dsimp only at c1 r1 r2 r3 r4 hln hstep hB3
        obtain ⟨gb, go, rfl, y1⟩ := r4.head (by omega)
        have x0 := cell_of_blk hms.box 0
        rw [hB2]
        have iB : (B : Int) < nr := by omega
        have iB0 : (0 : Int) ≤ B := by omega
        have irn : (0 : Int) < rn := by omega
        have hplen : pre.length < N := by
          have := congrArg List.length hpre.out
          rw [hstep, hN, List.length_append, List.length_cons] at this
          omega
        have hy0 := hY pre (headI rz) wr hJs hplen
        clear hplen
        obtain ⟨fn, tmps, assign, body, hy, hRd⟩ := hy0
        generalize headI rz = hx at *
        have HSUM := Lib.hid hms.sum
        have HSL := Lib.hid (sumL_left (ls := nums qs) (B := B) (by rw [hg1]; exact hB3))
        have HS := Lib.hid hstep
        have HM3 := Lib.hid hms
        have HR1 := Lib.hid hr1
        have HJ3 := Lib.hid hJs
        clear hstep hms hr1 hJs hg1 hcs hB2 hneg
        gi_wp2
        refine hRd.mono ?_
        rintro e W3 ⟨rfl, hJ4, hk3⟩
        have hms3 := HM3.out.of_keep (w2 := W3) (fun k cs t fr hk hc => hk3 k cs t fr hk (by rcases hc with h | ⟨h, h'⟩; exact .inl h; exact .inr ⟨by have := HM3.out.hlo; omega, h'⟩)) (fun r hr hp b off cs t fr e hc => hk3 b cs t fr hc (.inl (HM3.out.low r hr hp b off e)))
        have x3 := cell_of_blk hms3.box 0
        obtain ⟨X', hX', _, _, _, hcs⟩ := own_some hms3.row (by omega)
        injection hX' with hX'
        injection hX' with hX' _ _
        subst hX'
        have c3 : W3.cell? ⟨X, B, none⟩ = some (.slice (some ⟨gb, go, none⟩) rn rc) := hcs B _ (by unfold rowCells; rw [List.getElem?_map, HR1.out]; rfl)
        have f3 := own_free hms3.row B
        have HM4 := Lib.hid hms3
        have HJ4 := Lib.hid hJ4
        have irc : (1 : Int) ≤ rn := by omega
        have irc2 : (rn : Int) ≤ rc := by omega
        clear hms3 hJ4 hk3 hcs HM3 x0 c1 y1 HJ3 hRd hy
        gi_wp2
        refine wpIn_plain HF ?_
        go_still_tail 10, (by kernel_rfl)
        obtain ⟨tr, htr⟩ : ∃ tr, RowV.tail ⟨some ⟨gb, go, none⟩, rn, rc, rz⟩ = tr := ⟨_, rfl⟩
        have htv : Value.slice (if rc = 1 then some ⟨gb, go, none⟩ else some ⟨gb, go + 1, none⟩) (rn - 1) (rc - 1) = .slice tr.a tr.n tr.c := by rw [← htr]; rfl
        rw [htv]
        change wpList _ _ _ _ _ W3.drew
        have hms5 := (HM4.out.below (bl_drew (Below.refl _ W3)) (by have := HM4.out.hlo; have := HM4.out.hb; have := block_lt HM4.out.box; omega)).store HR1.out rfl
        have hJ5 : J (pre ++ [hx]) W3.drew := hAb _ _ _ none HJ4.out (grownBy_below _ _ (bl_drew (Below.refl _ W3))) (fun _ e => by cases e)
        obtain ⟨csX, hX⟩ : ∃ csX, W3.drew.heap[X]? = some (.cells csX 26 (0, 0)) := by
          rcases HM4.out.row.2 with ⟨h, _⟩ | ⟨g', cap', cur, h, _, h3, _⟩
          · cases h
          · injection h with h _ _
            injection h with h
            injection h with h _ _
            subst h
            exact ⟨cur, h3⟩
        have hJ6 := hSt _ _ X B (.slice tr.a tr.n tr.c) _ _ _ hJ5 (own_block HM4.out.row rfl) hX (.inl rfl)
        have hnl := nums_left HR1.out
        rw [htr] at hms5 hnl
        have c4 : W3.drew.cell? ⟨X, B, none⟩ = some (.slice (some ⟨gb, go, none⟩) rn rc) := c3
        have f4 : W3.drew.frozen? ⟨X, B, none⟩ = false := f3
        have hlr4 : lo ≤ W3.drew.heap.size := by have := HM4.out.hb; have := block_lt HM4.out.box; show lo ≤ W3.heap.size; omega
        have HM5 := Lib.hid hms5
        have HJ6 := Lib.hid hJ6
        have HNL := Lib.hid hnl
        clear hms5 hJ5 hJ6 hnl hX c3 f3 x3 htv htr HM4 HJ4
        generalize W3.drew = W4 at *
        go_wp2
        generalize W4.setCell ⟨X, B, none⟩ (.slice tr.a tr.n tr.c) = W5 at *
        have x5 := cell_of_blk HM5.out.box 0
        have x6 := cell_of_blk HM5.out.box 1
        have hBW5 : B0 ≤ W5.heap.size := by have := HM5.out.hlo; have := HM5.out.hb; have := block_lt HM5.out.box; omega
        gi_wp2_with (gi_at_call 28; refine (callsIn_of HF (bestAwake HM5.out.rows)).mono ?_; rintro e W6 ⟨rfl, hb6⟩)
        have hms6 := HM5.out.below hb6 hBW5
        have hJ7 : J (pre ++ [hx]) W6 := hAb _ _ _ none HJ6.out (grownBy_below _ _ hb6) (fun _ e => by cases e)
        go_roundw
        case rel => exact ⟨qs.set B tr, pre ++ [hx], rfl, Lib.hid (by rw [HNL.out, List.append_assoc, List.singleton_append, ← HS.out]; exact hpre.out), hJ7, hms6, by have := hms6.hb; have := block_lt hms6.box; omega⟩
        case measure =>
          rw [hms6.sum, HSUM.out, HNL.out]
          have := HSL.out
          omega
end Go.Proofs.Ytmiijnemacgbiaa
