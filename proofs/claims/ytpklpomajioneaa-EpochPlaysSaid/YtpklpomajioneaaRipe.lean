/- Chapter 12: Ripe. -/
import Derived.Test.YtpklpomajioneaaEpochR
import Derived.Lib.SliceRun
namespace Go.Proofs.Ytpklpomajioneaa
open Go.RowKit
set_option linter.unusedVariables false
set_option linter.unusedSimpArgs false

structure RefV where
  slot : Int
  gen : Int
def RefV.cells (r : RefV) : List Value := [.int .i64 r.slot, .int .i64 r.gen]
def refCells (l : List RefV) : List Value := l.flatMap RefV.cells
theorem refCells_length (l : List RefV) : (refCells l).length = l.length * 2 := by
  induction l with
  | nil => rfl
  | cons c cs ih => simp only [refCells, List.flatMap_cons, List.length_append, RefV.cells, List.length_cons, List.length_nil] at *; omega
theorem refCells_append (a b : List RefV) : refCells (a ++ b) = refCells a ++ refCells b := by simp [refCells]
def OldV.ref (o : OldV) : RefV := ⟨o.slot, o.gen⟩
def ripeB (now : Int) (o : OldV) : Bool := decide (o.ep ≤ now - 2)
theorem infoRef : (Try.prog.info? 33).map (fun i => (i.zero, i.size, i.bytes)) = some (some (.agg #[.int .i64 0, .int .i64 0]), 2, 16) := by kernel_rfl
/-- While Ripe goes on: the old blocks but the limbo's row are as they were; the boxes of x and out; the row; what is told. -/
structure RJ (w wr : World) (lo b X O : Nat) (v : Value) (R : List OldV) (l : List RefV) : Prop where
  only : Only (fun k => v.ownBlock = some k ∨ w.heap.size ≤ k) w wr
  hX : wr.heap[X]? = some (.cells [.pointer (some ⟨b, 0, none⟩)].toArray 25 (0, 0))
  row : wr.ownsRow lo 64 3 v R.length (oldCells R)
  out : ∃ A c, wr.heap[O]? = some (.cells [.slice A l.length c].toArray 37 (0, 0)) ∧ wr.ownsRow w.heap.size 33 2 (.slice A l.length c) l.length (refCells l)
theorem RJ.below {w wr w' : World} {lo b X O : Nat} {v : Value} {R : List OldV} {l : List RefV} (h : RJ w wr lo b X O v R l) (hb : Below wr.heap.size wr w') : RJ w w' lo b X O v R l := by
  have ho : Only (fun _ => False) wr w' := Only.of_below hb
  obtain ⟨A, c, h1, h2⟩ := h.out
  exact ⟨h.only.trans (ho.mono (fun _ h => h.elim)), ho.block h.hX (fun h => h), ownsRow_kept h.row ho (fun _ h => h.elim), A, c, ho.block h1 (fun h => h), ownsRow_kept h2 ho (fun _ h => h.elim)⟩
/-- One more is told: the box O has a new slice, whose row has grown. -/
theorem RJ.told {w wr w1 : World} {lo b X O : Nat} {v : Value} {R : List OldV} {l : List RefV} (h : RJ w wr lo b X O v R l) {A : Option Addr} {c : Nat} (hO : wr.heap[O]? = some (.cells [.slice A l.length c].toArray 37 (0, 0))) (hrow : wr.ownsRow w.heap.size 33 2 (.slice A l.length c) l.length (refCells l))
    (hXw : w.heap.size ≤ X) (hOw : w.heap.size ≤ O) (hvw : ∀ k, v.ownBlock = some k → k < w.heap.size) {r : RefV} {v' : Value} (hown : w1.ownsRow w.heap.size 33 2 v' (l.length + 1) (refCells l ++ r.cells)) (hgr : wr.grownBy w1 (Value.slice A l.length c).ownBlock) :
    RJ w (w1.setCell ⟨O, 0, none⟩ v') lo b X O v R (l ++ [r]) := by
  have ho : Only (fun k => (Value.slice A l.length c).ownBlock = some k) wr w1 := only_grown (Only.refl _ wr) hgr (fun k hk => .inl hk)
  have hX1 := ho.block h.hX (fun hk => absurd (own_type hrow hk h.hX) (by decide))
  have hO1 := ho.block hO (fun hk => absurd (own_type hrow hk hO) (by decide))
  have hne : X ≠ O := by
    rintro rfl
    have := h.hX.symm.trans hO
    injection this with this
    injection this with _ h2 _
    exact absurd h2 (by decide)
  have ho2 : Only (fun k => k = O) w1 (w1.setCell ⟨O, 0, none⟩ v') := (Only.refl (fun k => k = O) w1).setCell _ _ (.inl rfl)
  obtain ⟨A', c', rfl⟩ := own_form hown
  refine ⟨?_, setCell_other hX1 hne _, ?_, A', c', ?_, ?_⟩
  · exact (h.only.trans (ho.mono (fun k hk => .inr (own_block hrow hk)))).trans (ho2.mono (fun k hk => .inr (by rw [hk]; exact hOw)))
  · refine ownsRow_kept (ownsRow_kept h.row ho (fun k hk hk2 => ?_)) ho2 (fun k hk hk2 => ?_)
    · have h1 := own_block hrow hk
      have h2 := hvw k hk2
      omega
    · have h2 := hvw k hk2
      omega
  · rw [List.length_append, List.length_singleton]
    exact setCell_same hO1 _
  · rw [List.length_append, List.length_singleton, refCells_append]
    have he : refCells [r] = r.cells := by simp [refCells]
    rw [he]
    exact ownsRow_kept hown ho2 (by rintro k rfl hk; exact absurd (own_type hown hk hO1) (by decide))

/-- Blocks that hold neither refs nor a slice of refs are as they were. -/
def KeepT (wr w' : World) : Prop := ∀ (k : Nat) (cs : Array Value) (t : TypeId) (fr : Nat × Nat), wr.heap[k]? = some (.cells cs t fr) → t ≠ 33 → t ≠ 37 → w'.heap[k]? = some (.cells cs t fr)
theorem KeepT.below {wr w' : World} (hb : Below wr.heap.size wr w') : KeepT wr w' := fun k cs t fr h _ _ => (hb.block k (block_lt h)).trans h
theorem KeepT.trans {a b c : World} (h : KeepT a b) (h2 : KeepT b c) : KeepT a c := fun k cs t fr hk h3 h4 => h2 k cs t fr (h k cs t fr hk h3 h4) h3 h4
theorem KeepT.told {wr w1 : World} {lo O : Nat} {A : Option Addr} {n c : Nat} {xs : List Value} {os : Array Value} (hO : wr.heap[O]? = some (.cells os 37 (0, 0))) (hrow : wr.ownsRow lo 33 2 (.slice A n c) n xs) (hgr : wr.grownBy w1 (Value.slice A n c).ownBlock) (v' : Value) : KeepT wr (w1.setCell ⟨O, 0, none⟩ v') := by
  intro k cs t fr hk h3 h4
  have ho : Only (fun k => (Value.slice A n c).ownBlock = some k) wr w1 := only_grown (Only.refl _ wr) hgr (fun k hk => .inl hk)
  have h1 := ho.block hk (fun he => h3 (own_type hrow he hk))
  refine setCell_other h1 ?_ _
  rintro rfl
  rw [hk] at hO
  injection hO with hO
  injection hO with _ h2 _
  exact h4 h2
set_option maxHeartbeats 2000000 in
theorem ripe1_any {w wr : World} {lo b n X O : Nat} {s : EpS} {lv : Nat → Value} {a : Nat} {R : List OldV} {l : List RefV} (h : EpAt w lo b n s lv) (ha : a < 16) (hj : RJ w wr lo b X O (lv a) R l) (hXw : w.heap.size ≤ X) (hOw : w.heap.size ≤ O) (hl : l.length ≤ 1000000) (hn : s.now ≤ 1000000) (o : OldV) :
    Calls Try.prog 31 #[.agg o.cells.toArray, .pointer (some ⟨X, 0, none⟩), .pointer (some ⟨O, 0, none⟩)] wr fun e w' => e = .returned (.bool (ripeB s.now o)) ∧ RJ w w' lo b X O (lv a) R (if ripeB s.now o = true then l ++ [o.ref] else l) ∧ KeepT wr w' := by
  obtain ⟨sl, gn, ep⟩ := o
  show Calls Try.prog 31 #[.agg #[.int .i64 sl, .int .i64 gn, .int .i64 ep], .pointer (some ⟨X, 0, none⟩), .pointer (some ⟨O, 0, none⟩)] wr _
  have hvw : ∀ k, (lv a).ownBlock = some k → k < w.heap.size := fun k hk => own_lt (h.row a ha) hk
  have hbk := hj.only.block h.blk (by
    rintro (hk | hk)
    · exact h.rows_not_b ha hk
    · have := block_lt h.blk
      omega)
  have hJ := hj.below (bl_alloc (Below.refl _ wr) (.cells #[.int .i64 sl, .int .i64 gn, .int .i64 ep] 64))
  have hK1 := KeepT.below (bl_alloc (Below.refl _ wr) (.cells #[.int .i64 sl, .int .i64 gn, .int .i64 ep] 64))
  have hb1 := alloc_old hbk (.cells #[.int .i64 sl, .int .i64 gn, .int .i64 ep] 64)
  have hp := alloc_new wr (.cells #[.int .i64 sl, .int .i64 gn, .int .i64 ep] 64)
  have c0 := (cell_of_blk hb1 0).trans (epCells_now n s lv)
  have cX : (wr.alloc (.cells #[.int .i64 sl, .int .i64 gn, .int .i64 ep] 64)).cell? ⟨X, 0, none⟩ = some (.pointer (some ⟨b, 0, none⟩)) := cell_of_blk hJ.hX 0
  have p0 : (wr.alloc (.cells #[.int .i64 sl, .int .i64 gn, .int .i64 ep] 64)).cell? ⟨wr.heap.size, 0, none⟩ = some (.int .i64 sl) := cell_of_blk hp 0
  have p1 : (wr.alloc (.cells #[.int .i64 sl, .int .i64 gn, .int .i64 ep] 64)).cell? ⟨wr.heap.size, 1, none⟩ = some (.int .i64 gn) := cell_of_blk hp 1
  have p2 : (wr.alloc (.cells #[.int .i64 sl, .int .i64 gn, .int .i64 ep] 64)).cell? ⟨wr.heap.size, 2, none⟩ = some (.int .i64 ep) := cell_of_blk hp 2
  obtain ⟨A, c, hO, hrow⟩ := hJ.out
  have cO := cell_of_blk hO 0
  have fO := free_of_blk hO 0
  have s1 : IntKind.i64.wrap ((s.now : Int) - 2) = (s.now : Int) - 2 := IntWalk.i64_in _ (by omega)
  obtain ⟨i0, hi, hz0, hz1, hz2⟩ := info_parts infoRef
  have H := Lib.hid h
  have HJ := Lib.hid hJ
  have HO := Lib.hid hO
  have HROW := Lib.hid hrow
  have HP := Lib.hid hp
  have HK1 := Lib.hid hK1
  have HV := Lib.hid hvw
  clear h hj hJ hO hrow hp hb1 hbk hvw hK1
  by_cases hr : ep ≤ s.now - 2
  · have hrb : ripeB s.now ⟨sl, gn, ep⟩ = true := decide_eq_true hr
    rw [hrb, if_pos rfl]
    clear hrb
    have d1 : decide (ep ≤ (s.now : Int) - 2) = true := decide_eq_true hr
    go_enter Try.func31, Try.ntmps31
    go_wp2_with fail
    generalize wr.alloc (.cells #[.int .i64 sl, .int .i64 gn, .int .i64 ep] 64) = w1 at *
    go_quiet (fail)
    have hJ2 := HJ.out.below (bl_alloc (bl_drewN (Below.refl _ w1) nq) (.cells #[.int .i64 sl, .int .i64 gn] 33))
    have hO2 : ((w1.drewN nq).alloc (.cells #[.int .i64 sl, .int .i64 gn] 33)).heap[O]? = _ := alloc_old (show (w1.drewN nq).heap[O]? = _ from HO.out) _
    have hr2 := (show (w1.drewN nq).ownsRow w.heap.size 33 2 (.slice A l.length c) l.length (refCells l) from HROW.out).alloc (.cells #[.int .i64 sl, .int .i64 gn] 33)
    have hbase : w.heap.size ≤ ((w1.drewN nq).alloc (.cells #[.int .i64 sl, .int .i64 gn] 33)).heap.size := hJ2.only.size
    go_wp2_with (at_builtin; refine wpList_append_own _ rfl (.tmp 15) (.tmp 18) 37 rfl w.heap.size 33 i0 _ 2 16 Try.underlying37 hi hz0 hz1 hz2 rfl (by decide) (.slice A l.length c) l.length (refCells l) rfl hr2 ⟨w1.heap.size, 0, none⟩ 1 1 [.int .i64 sl, .int .i64 gn] rfl rfl (cell_two_at _ _ rfl _ _ _) (by simp [Value.oneCell']) (by simp only [maxLen]; omega) (by omega) hbase ?_; intro v w4 hown4 hgr4 _; obtain ⟨A4, c4, rfl⟩ := own_form hown4; have hO4 := (only_grown (S := fun k => (Value.slice A l.length c).ownBlock = some k) (Only.refl _ _) hgr4 (fun k hk => .inl hk)).block hO2 (fun hk => absurd (own_type hr2 hk hO2) (by decide)); have cO4 := cell_of_blk hO4 0; have fO4 := free_of_blk hO4 0)
    go_ret
    exact ⟨rfl, hJ2.told hO2 hr2 hXw hOw HV.out (r := ⟨sl, gn⟩) hown4 hgr4, (HK1.out.trans (KeepT.below (bl_alloc (bl_drewN (Below.refl _ w1) nq) _))).trans (KeepT.told hO2 hr2 hgr4 _)⟩
  · have hrb : ripeB s.now ⟨sl, gn, ep⟩ = false := decide_eq_false hr
    rw [hrb, if_neg (by decide)]
    clear hrb
    have d1 : decide (ep ≤ (s.now : Int) - 2) = false := decide_eq_false hr
    go_enter Try.func31, Try.ntmps31
    go_wp2_with fail
    generalize wr.alloc (.cells #[.int .i64 sl, .int .i64 gn, .int .i64 ep] 64) = w1 at *
    go_quiet (fail)
    go_wp2_with fail
    go_ret
    exact ⟨rfl, HJ.out.below (bl_drewN (Below.refl _ w1) _), HK1.out.trans (KeepT.below (bl_drewN (Below.refl _ w1) _))⟩

/-- What RJ is held against: constants of the call. -/
structure RC (w : World) (lo b n X O a : Nat) (s : EpS) (lv : Nat → Value) : Prop where
  ep : EpAt w lo b n s lv
  ha : a < 16
  hX : w.heap.size ≤ X
  hO : w.heap.size ≤ O
  now : s.now ≤ 1000000
theorem oldCells_at (es : List OldV) : ∀ i, i < es.length → ∀ j, j < 3 → (oldCells es)[i * 3 + j]? = ((es[i]?).getD ⟨0, 0, 0⟩).cells[j]? := by
  induction es with
  | nil => intro i hi; simp at hi
  | cons c cs ih =>
    intro i hi j hj
    have hl : c.cells.length = 3 := rfl
    cases i with
    | zero =>
      simp only [oldCells, List.flatMap_cons, Nat.zero_mul, Nat.zero_add]
      rw [List.getElem?_append_left (by omega)]
      rfl
    | succ i =>
      have := ih i (by simpa using hi) j hj
      simp only [oldCells, List.flatMap_cons, List.getElem?_cons_succ] at this ⊢
      rw [List.getElem?_append_right (by omega), hl, show (i + 1) * 3 + j - 3 = i * 3 + j by omega]
      exact this
theorem RJ.load {w wr : World} {lo b X O : Nat} {g m c : Nat} {R : List OldV} {l : List RefV} (h : RJ w wr lo b X O (.slice (some ⟨g, 0, none⟩) m c) R l) {i : Nat} (hi : i < R.length) {o : OldV} (ho : R[i]? = some o) :
    wr.cell? ⟨g, i * 3, none⟩ = some (.int .i64 o.slot) ∧ wr.cell? ⟨g, i * 3 + 1, none⟩ = some (.int .i64 o.gen) ∧ wr.cell? ⟨g, i * 3 + 2, none⟩ = some (.int .i64 o.ep) := by
  have hr := h.row
  have hm : R.length = m := by
    rcases hr.2 with ⟨hv, h0⟩ | ⟨g', cap, cur, hv, _⟩
    · cases hv
    · injection hv with _ h2 _; exact h2.symm
  subst hm
  obtain ⟨g', hg, _, _, _, hc⟩ := own_some hr (by omega)
  injection hg with hg
  injection hg with hg _ _
  subst hg
  have hx := oldCells_at R i hi
  rw [ho] at hx
  exact ⟨hc _ _ (hx 0 (by omega)), hc _ _ (hx 1 (by omega)), hc _ _ (hx 2 (by omega))⟩

set_option maxHeartbeats 2000000 in
/-- The first one that is ripe. -/
theorem index_any {w wr : World} {lo b n X O a : Nat} {s : EpS} {lv : Nat → Value} {R : List OldV} {l : List RefV} (hC : RC w lo b n X O a s lv) (hj : RJ w wr lo b X O (lv a) R l) (hl : l.length ≤ 1000) {A : Option Addr} {m c : Nat} (hv : lv a = .slice A m c) (hm : R.length = m) (hm2 : m ≤ 1000000) :
    Calls Try.prog 35 #[.slice A m c, .func (.func 31) #[] #[.pointer (some ⟨X, 0, none⟩), .pointer (some ⟨O, 0, none⟩)]] wr fun e w' =>
      ((∀ o ∈ R, ripeB s.now o = false) ∧ e = .returned (.int .i64 (-1)) ∧ RJ w w' lo b X O (lv a) R l) ∨
      (∃ k o, k < m ∧ R[k]? = some o ∧ (∀ o ∈ R.take k, ripeB s.now o = false) ∧ ripeB s.now o = true ∧ e = .returned (.int .i64 (k : Nat)) ∧ RJ w w' lo b X O (lv a) R (l ++ [o.ref])) := by
  have HJ := Lib.hid hj
  have HM := Lib.hid hm
  clear hj hm
  go_enter Try.func35, Try.ntmps35
  go_wp2_with fail
  go_loopw [5, 8] (fun _ i wx => ∃ K : Nat, K ≤ m ∧ i = .int .i64 K ∧ RJ w wx lo b X O (lv a) R l ∧ ∀ o ∈ R.take K, ripeB s.now o = false) (fun _ i _ => m - (intOf i).toNat)
  case atStart => exact ⟨0, Nat.zero_le _, rfl, HJ.out, fun o ho => by simp at ho⟩
  case round =>
    obtain ⟨K, hK, rfl, hj, hall⟩ := hrel
    have HALL := Lib.hid hall
    clear hall
    by_cases h1 : K < m
    · have hRK : K < R.length := by rw [HM.out]; exact h1
      obtain ⟨o, ho⟩ : ∃ o, R[K]? = some o := ⟨_, List.getElem?_eq_getElem hRK⟩
      have hm0 : 0 < m := by omega
      obtain ⟨g, rfl⟩ : ∃ g, A = some ⟨g, 0, none⟩ := by
        have hr := hj.row
        rw [hv, HM.out] at hr
        obtain ⟨g, hg, _⟩ := own_some hr hm0
        exact ⟨g, hg⟩
      obtain ⟨y0, y1, y2⟩ := (show RJ _ _ _ _ _ _ (.slice (some ⟨g, 0, none⟩) m c) _ _ by rw [← hv]; exact hj).load hRK ho
      have HO := Lib.hid ho
      have HJK := Lib.hid hj
      clear ho hj hm0 hRK
      cases hr : ripeB s.now o
      · have HR := Lib.hid hr
        have hcall := ripe1_any hC.ep hC.ha HJK.out hC.hX hC.hO (by omega) hC.now o
        rw [hr, if_neg (by decide)] at hcall
        clear hr
        go_wp2_with fail
        refine hcall.mono ?_
        rintro e w' ⟨rfl, hj2, _⟩
        go_wp2_with fail
        go_roundw
        case rel =>
          refine ⟨K + 1, by omega, by simp, hj2, fun o' ho' => ?_⟩
          obtain ⟨hlt, heq⟩ := List.getElem?_eq_some_iff.1 HO.out
          rw [List.take_succ_eq_append_getElem hlt, List.mem_append, List.mem_singleton] at ho'
          rcases ho' with ho' | rfl
          · exact HALL.out _ ho'
          · rw [heq]; exact HR.out
        case measure => simp [intOf]; omega
      · have HR := Lib.hid hr
        have hcall := ripe1_any hC.ep hC.ha HJK.out hC.hX hC.hO (by omega) hC.now o
        rw [hr, if_pos rfl] at hcall
        clear hr
        go_wp2_with fail
        refine hcall.mono ?_
        rintro e w' ⟨rfl, hj2, _⟩
        go_wp2_with fail
        go_ret
        exact .inr ⟨K, o, h1, HO.out, HALL.out, HR.out, rfl, hj2⟩
    · obtain rfl : K = m := by omega
      go_wp2_with fail
      go_ret
      refine .inl ⟨fun o ho => HALL.out o ?_, rfl, hj⟩
      rw [List.take_of_length_le (by rw [HM.out]; exact Nat.le_refl _)]
      exact ho
/-- What is kept, and told, of a row's first ones. -/
def keptOf (now : Int) (L : List OldV) : List OldV := L.filter fun o => !ripeB now o
def toldOf (now : Int) (L : List OldV) : List RefV := (L.filter fun o => ripeB now o).map OldV.ref
theorem ownsRow_setCells {lo : Nat} {e : TypeId} {size g n c : Nat} : ∀ (vs : List Value) (o : Nat) (w : World) (xs : List Value), w.ownsRow lo e size (.slice (some ⟨g, 0, none⟩) n c) n xs → ∃ xs', (w.setCells g o vs).ownsRow lo e size (.slice (some ⟨g, 0, none⟩) n c) n xs' ∧ ∀ j, j < o → xs'[j]? = xs[j]?
  | [], o, w, xs, h => ⟨xs, h, fun _ _ => rfl⟩
  | v :: r, o, w, xs, h => by
    obtain ⟨xs', h1, h2⟩ := ownsRow_setCells r (o + 1) (w.setCell ⟨g, o, none⟩ v) (xs.set o v) (ownsRow_set h o v)
    exact ⟨xs', h1, fun j hj => (h2 j (by omega)).trans (List.getElem?_set_ne (by omega))⟩
theorem only_setCells {g : Nat} : ∀ (vs : List Value) (o : Nat) (w : World), Only (fun k => k = g) w (w.setCells g o vs)
  | [], o, w => Only.refl _ w
  | v :: r, o, w => ((Only.refl (fun k => k = g) w).setCell ⟨g, o, none⟩ v (.inl rfl)).trans (only_setCells r (o + 1) _)
theorem oldCells_set (l : List OldV) (e : OldV) : ∀ K, K < l.length → (((oldCells l).set (K * 3) (.int .i64 e.slot)).set (K * 3 + 1) (.int .i64 e.gen)).set (K * 3 + 2) (.int .i64 e.ep) = oldCells (l.set K e) := by
  induction l with
  | nil => intro K hK; simp at hK
  | cons c cs ih =>
    intro K hK
    cases K with
    | zero => simp [oldCells, OldV.cells]
    | succ K =>
      have := ih K (by simpa using hK)
      simp only [oldCells, List.flatMap_cons, List.set_cons_succ] at this ⊢
      rw [← this]
      have hl : c.cells.length = 3 := rfl
      simp only [show (K + 1) * 3 = K * 3 + 3 by omega]
      have hs : ∀ (r : List Value) (j : Nat) (x : Value), (c.cells ++ r).set (K * 3 + 3 + j) x = c.cells ++ r.set (K * 3 + j) x := fun r j x => by
        rw [List.set_append_right _ _ (by omega), hl, show K * 3 + 3 + j - 3 = K * 3 + j by omega]
      have hs0 : ∀ (r : List Value) (x : Value), (c.cells ++ r).set (K * 3 + 3) x = c.cells ++ r.set (K * 3) x := fun r x => hs r 0 x
      simp only [hs, hs0]
def setOld (w : World) (g i : Nat) (o : OldV) : World := ((w.setCell ⟨g, i, none⟩ (.int .i64 o.slot)).setCell ⟨g, i + 1, none⟩ (.int .i64 o.gen)).setCell ⟨g, i + 2, none⟩ (.int .i64 o.ep)
theorem RJ.set {w wr : World} {lo b X O g m c : Nat} {R : List OldV} {l : List RefV} (h : RJ w wr lo b X O (.slice (some ⟨g, 0, none⟩) m c) R l) (hm : R.length = m) (hXw : w.heap.size ≤ X) (hOw : w.heap.size ≤ O) (hg : g < w.heap.size) {I : Nat} (hI : I < m) (o : OldV) : RJ w (setOld wr g (I * 3) o) lo b X O (.slice (some ⟨g, 0, none⟩) m c) (R.set I o) l := by
  subst hm
  have ho : Only (fun k => k = g) wr (setOld wr g (I * 3) o) := by
    unfold setOld
    exact (((Only.refl (fun k => k = g) wr).setCell _ _ (.inl rfl)).setCell _ _ (.inl rfl)).setCell _ _ (.inl rfl)
  obtain ⟨A, c', h1, h2⟩ := h.out
  refine ⟨h.only.trans (ho.mono (fun k hk => .inl (by rw [hk]; rfl))), ho.block h.hX (by omega), ?_, A, c', ho.block h1 (by omega), ownsRow_kept h2 ho (by rintro k rfl hk; have := own_block h2 hk; omega)⟩
  rw [List.length_set, ← oldCells_set R o I hI]
  exact ownsRow_set (ownsRow_set (ownsRow_set h.row _ _) _ _) _ _
theorem oldCells_take (l : List OldV) : ∀ I, (oldCells l).take (I * 3) = oldCells (l.take I) := by
  induction l with
  | nil => intro I; simp [oldCells]
  | cons c cs ih =>
    intro I
    cases I with
    | zero => simp [oldCells]
    | succ I =>
      have := ih I
      simp only [oldCells, List.flatMap_cons, List.take_succ_cons] at this ⊢
      have hl : c.cells.length = 3 := rfl
      rw [show (I + 1) * 3 = c.cells.length + I * 3 by omega, List.take_length_add_append, this]
/-- Behind the clearing of what lies behind the first I. -/
theorem RJ.cleared {w wr : World} {lo b X O g m c : Nat} {R : List OldV} {l : List RefV} (h : RJ w wr lo b X O (.slice (some ⟨g, 0, none⟩) m c) R l) (hm : R.length = m) (hXw : w.heap.size ≤ X) (hOw : w.heap.size ≤ O) (hg : g < w.heap.size) {I : Nat} (hI : I ≤ m) (vs : List Value) {K : List OldV} (hK : R.take I = K) : RJ w (wr.setCells g (I * 3) vs) lo b X O (.slice (some ⟨g, 0, none⟩) I c) K l := by
  subst hm hK
  have ho := only_setCells (g := g) vs (I * 3) wr
  obtain ⟨A, c', h1, h2⟩ := h.out
  refine ⟨h.only.trans (ho.mono (fun k hk => .inl (by rw [hk]; rfl))), ho.block h.hX (by omega), ?_, A, c', ho.block h1 (by omega), ownsRow_kept h2 ho (by rintro k rfl hk; have := own_block h2 hk; omega)⟩
  obtain ⟨xs', h3, h4⟩ := ownsRow_setCells vs (I * 3) wr (oldCells R) h.row
  have h5 := ownsRow_take h3 I hI
  rw [List.length_take, Nat.min_eq_left hI, ← oldCells_take]
  have he : xs'.take (I * 3) = (oldCells R).take (I * 3) := by
    apply List.ext_getElem?
    intro j
    rw [List.getElem?_take, List.getElem?_take]
    split
    · rename_i hj; exact h4 j hj
    · rfl
  rw [← he]
  exact h5
theorem zeroOlds (n : Nat) : (Builtin.zeroCells #[.int .i64 0, .int .i64 0, .int .i64 0] n).toList = List.replicate (n * 3) (.int .i64 0) := by
  simp only [Builtin.zeroCells]
  apply List.ext_getElem
  · simp
  · intro i h1 h2
    have : i % 3 = 0 ∨ i % 3 = 1 ∨ i % 3 = 2 := by omega
    rcases this with h | h | h <;> simp [h]
theorem run_clear_olds (w : World) (ty : TypeId) (g off n c : Nat) (hn : 0 < n) (hc : ∀ j, j < n * 3 → (w.cell? ⟨g, off + j, none⟩).isSome = true) (hf : ∀ j, j < n * 3 → w.frozen? ⟨g, off + j, none⟩ = false) :
    (Builtin.clear_ #[59] ty #[.slice (some ⟨g, off, none⟩) n c]).run Try.prog w = .ok (.tuple #[]) (w.setCells g off (List.replicate (n * 3) (.int .i64 0))) := by
  have hst := run_storeCells_cells (P := Try.prog) g off (List.replicate (n * 3) (.int .i64 0)) 0 w (by simpa using hc) (by simpa using hf) (by intro v hv'; rw [List.eq_of_mem_replicate hv']; rfl)
  simp only [Nat.add_zero] at hst
  obtain ⟨m, rfl⟩ : ∃ m, n = m + 1 := ⟨n - 1, by omega⟩
  have hv : ∀ w, (zeroValue 64).run Try.prog w = .ok (.agg #[.int .i64 0, .int .i64 0, .int .i64 0]) w := fun w => Try.zeroValue64 w
  have hz := zeroOlds (m + 1)
  simp [Builtin.clear_, run_underlying Try.underlying59, hv, Value.cells, hz, hst]
end Go.Proofs.Ytpklpomajioneaa
