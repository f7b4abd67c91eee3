/- Chapter 19: what is done with a log: Leave, Post. (Printed by lggen.py.) -/
import Derived.Test.YtibbnikfecilhaaLg3
namespace Go.Proofs.Ytibbnikfecilhaa
open Go.RowKit
set_option linter.unusedVariables false
set_option linter.unusedSimpArgs false

theorem LogAt.curd {w w' : World} {lo L : Nat} {b : LogB} {s : LogS} (h : LogAt w lo L b s) (ho : Only (fun k => k = b.C) w w') (f : Nat → Int)
    (hC : w'.heap[b.C]? = some (.cells (curCells { s with cur := f }).toArray 3 (0, 0))) (hi : LogI { s with cur := f }) : LogAt w' lo L b { s with cur := f } := by
  have ne : ∀ {k : Nat} {cs : Array Value} {t : TypeId} {fr : Nat × Nat}, w.heap[k]? = some (.cells cs t fr) → t ≠ 3 → ¬ k = b.C := fun h1 h2 => blk_ne h1 h.curs h2
  refine ⟨ho.block h.hL (ne h.hL (by decide)), h.ring.kept ho (ne h.ring.hR (by decide)) (ne h.ring.hB (by decide)), hC, ownsRow_keptT h.outs (fun k cs fr hc => ho.block hc (ne hc (by decide))), fun i hi => (h.orng i hi).kept ho (ne (h.orng i hi).hR (by decide)) (ne (h.orng i hi).hB (by decide)), h.apart, fun i p x hi hx => ?_, ?_, hi, h.lo⟩
  · rcases h.lost i p x hi hx with h1 | ⟨k, h1, h2, h3⟩
    · exact .inl h1
    · exact .inr ⟨k, h1, h2, ho.block h3 h1⟩
  · obtain ⟨an, D, h0', ⟨es, clock, h1, h2⟩, h3⟩ := h.ans.ex
    refine ⟨an, D, h0', ⟨es, clock, ho.block h1 ?_, h2⟩, h3⟩
    intro e
    rw [e, h.curs] at h1
    cases h1
def LogS.leaves (s : LogS) (i : Int) : Bool := decide (s.cursor i ≠ -1)
def LogS.left (s : LogS) (i : Int) : LogS := { s with cur := upd s.cur i.toNat (-1) }
theorem LogI.left {s : LogS} (h : LogI s) (i : Int) : LogI (s.left i) := by
  refine ⟨h.sh1, h.sh2, h.inb1, h.inb2, h.st1, h.st2, h.low, h.room, h.cmd, fun j hj => ?_, h.out, fun j p hj hp => ?_⟩
  · show upd s.cur i.toNat (-1) j = -1 ∨ (s.low : Int) ≤ upd s.cur i.toNat (-1) j ∧ upd s.cur i.toNat (-1) j ≤ s.tail
    unfold upd
    split
    · exact .inl rfl
    · exact h.cur1 j hj
  · have hp : upd s.cur i.toNat (-1) j = (p : Nat) := hp
    unfold upd at hp
    split at hp
    · omega
    · exact h.cur2 j p hj hp
theorem cursor_in {s : LogS} {i : Int} (h : s.cursor i ≠ -1) : ∃ k : Nat, i = k ∧ k < s.cfg.sh ∧ s.cursor i = s.cur k := by
  unfold LogS.cursor at h ⊢
  split at h
  · rename_i g
    exact ⟨i.toNat, by omega, by omega, if_pos g⟩
  · exact absurd rfl h
theorem logLeave {w : World} {lo L : Nat} {b : LogB} {s : LogS} (h : LogAt w lo L b s) (i : Int) (r : Bool) (hr : s.leaves i = r) (s' : LogS) (hs' : (if r = true then s.left i else s) = s') :
    Calls Try.prog 14 #[.pointer (some ⟨L, 0, none⟩), .int .i64 i] w fun e w' => e = .returned (.bool r) ∧ LogAt w' lo L b s' ∧ Only (fun k => k = b.C) w w' := by
  have c12 : w.cell? ⟨L, 12, none⟩ = some (.slice (some ⟨b.C, 0, none⟩) s.cfg.sh s.cfg.sh) := lgCell h 12
  unfold LogS.leaves at hr
  by_cases g : s.cursor i = -1
  · rw [decide_eq_false (fun n => n g)] at hr
    subst hr
    simp only [Bool.false_eq_true, if_false] at hs'
    subst hs'
    have HC := Lib.hid (logCursor h i _ g)
    have HH := Lib.hid h
    clear h g
    go_enter Try.func14, Try.ntmps14
    go_wp2_with fail
    refine HC.out.mono ?_
    rintro e w' ⟨rfl, rfl⟩
    go_wp2_with fail
    go_ret
    exact ⟨rfl, HH.out, Only.refl _ _⟩
  · rw [decide_eq_true g] at hr
    subst hr
    simp only [if_true] at hs'
    obtain ⟨k, rfl, hk, hc⟩ := cursor_in g
    have iK : (k : Int) < s.cfg.sh := by omega
    have e1 : (s.cur k == -1) = false := by rw [← hc]; simpa using g
    have cc : w.cell? ⟨b.C, k, none⟩ = some (.int .i64 (s.cur k)) := (cell_of_blk h.curs k).trans (curCells_at s hk)
    have ff : w.frozen? ⟨b.C, k, none⟩ = false := free_of_blk h.curs k
    have hfin : LogAt (w.setCell ⟨b.C, k, none⟩ (.int .i64 (-1))) lo L b s' ∧ Only (fun k => k = b.C) w (w.setCell ⟨b.C, k, none⟩ (.int .i64 (-1))) := by
      have ho : Only (fun k => k = b.C) w (w.setCell ⟨b.C, k, none⟩ (.int .i64 (-1))) := (Only.refl _ w).setCell _ _ (.inl rfl)
      rw [← hs']
      refine ⟨h.curd ho (upd s.cur k (-1)) ?_ (h.inv.left k), ho⟩
      rw [← curCells_set]
      exact setCell_same h.curs _
    have HF := Lib.hid hfin
    have HC := Lib.hid (logCursor h k _ hc)
    clear h g hc hfin hs'
    go_enter Try.func14, Try.ntmps14
    go_wp2_with fail
    refine HC.out.mono ?_
    rintro e w' ⟨rfl, rfl⟩
    go_wp2_with fail
    go_ret
    exact ⟨rfl, HF.out⟩
/-- A worker's ring is laid anew, and its cursor. -/
theorem LogAt.outc {w w' : World} {lo L : Nat} {b : LogB} {s : LogS} (h : LogAt w lo L b s) {i : Nat} (hi : i < s.cfg.sh) (ho : Only (fun k => k = b.bw i ∨ k = b.C) w w') (f : Nat → Nat → Option (OutV × Int)) (g : Nat → Int)
    (hr : oAt w' (b.rw i) (b.bw i) s.cfg.inb s.low (ringOf OutV.zero s.low s.cfg.inb fun p => (f i p).map (·.1))) (hC : w'.heap[b.C]? = some (.cells (curCells { s with cur := g }).toArray 3 (0, 0)))
    (hf : ∀ j, j ≠ i → f j = s.out j) (hl : ∀ p x, f i p = some x → LostIn w b.C x) (hinv : LogI { s with out := f, cur := g }) : LogAt w' lo L b { s with out := f, cur := g } := by
  have ne : ∀ {k : Nat} {cs : Array Value} {t : TypeId} {fr : Nat × Nat}, w.heap[k]? = some (.cells cs t fr) → t ≠ 128 → t ≠ 3 → ¬ (k = b.bw i ∨ k = b.C) := fun h1 h2 h3 e => e.elim (blk_ne h1 (h.orng i hi).hB h2) (blk_ne h1 h.curs h3)
  have hlost : ∀ {x : OutV × Int}, LostIn w b.C x → LostIn w' b.C x := by
    intro x hx
    rcases hx with h1 | ⟨k, h1, h2, h3⟩
    · exact .inl h1
    · exact .inr ⟨k, h1, h2, ho.block h3 (fun e => e.elim (blk_ne h3 (h.orng i hi).hB (by decide)) h1)⟩
  refine ⟨ho.block h.hL (ne h.hL (by decide) (by decide)), h.ring.kept ho (ne h.ring.hR (by decide) (by decide)) (ne h.ring.hB (by decide) (by decide)), hC, ownsRow_keptT h.outs (fun k cs fr hc => ho.block hc (ne hc (by decide) (by decide))), fun j hj => ?_, h.apart, fun j p x hj hx => ?_, ?_, hinv, h.lo⟩
  · by_cases e : j = i
    · subst e; exact hr
    · have := (h.orng j hj).kept ho (ne (h.orng j hj).hR (by decide) (by decide)) (fun e' => e'.elim (h.apart j i hj hi e).2 (blk_ne (h.orng j hj).hB h.curs (by decide)))
      show oAt w' _ _ _ _ (ringOf _ _ _ fun p => (f j p).map (·.1))
      rw [hf j e]
      exact this
  · by_cases e : j = i
    · subst e; exact hlost (hl p x hx)
    · have hx : f j p = some x := hx
      rw [hf j e] at hx
      exact hlost (h.lost j p x hj hx)
  · obtain ⟨an, D, h0', ⟨es, clock, h1, h2⟩, h3⟩ := h.ans.ex
    refine ⟨an, D, h0', ⟨es, clock, ho.block h1 ?_, h2⟩, h3⟩
    rintro (e | e)
    · rw [e, (h.orng i hi).hB] at h1; cases h1
    · rw [e, h.curs] at h1; cases h1
def LogS.posts (s : LogS) (i : Int) : Bool := decide (s.cursor i ≠ -1) && (s.look (s.cursor i)).isSome
def LogS.posted (s : LogS) (i : Int) (x : OutV × Int) : LogS := { s with out := upd s.out i.toNat (upd (s.out i.toNat) (s.cur i.toNat).toNat (some x)), cur := upd s.cur i.toNat (s.cur i.toNat + 1) }
theorem look_some {s : LogS} (h : LogI s) {p : Nat} (hl : (s.look p).isSome = true) : s.low ≤ p ∧ p < s.tail := by
  unfold LogS.look at hl
  by_cases h1 : (s.low : Int) ≤ p
  · rw [if_pos h1, Int.toNat_natCast] at hl
    refine ⟨by omega, ?_⟩
    by_cases h2 : p < s.tail
    · exact h2
    · rw [h.cmd p (by omega)] at hl; cases hl
  · rw [if_neg h1] at hl; cases hl
theorem outv_put (s : LogS) (k p : Nat) (x : OutV × Int) : (fun q => (upd s.out k (upd (s.out k) p (some x)) k q).map (·.1)) = upd (s.outv k) p (some x.1) := by
  funext q
  rw [upd_same]
  unfold upd LogS.outv
  split
  · rfl
  · rfl
theorem LogI.posted {s : LogS} (h : LogI s) {k p : Nat} (hk : k < s.cfg.sh) (hp : s.cur k = p) (hlt : p < s.tail) (x : OutV × Int) : LogI (s.posted k x) := by
  have e : (s.posted k x).out = upd s.out k (upd (s.out k) p (some x)) := by
    show upd s.out (k : Int).toNat (upd (s.out (k : Int).toNat) (s.cur (k : Int).toNat).toNat (some x)) = _
    rw [Int.toNat_natCast, hp, Int.toNat_natCast]
  have ec : (s.posted k x).cur = upd s.cur k ((p : Int) + 1) := by
    show upd s.cur (k : Int).toNat (s.cur (k : Int).toNat + 1) = _
    rw [Int.toNat_natCast, hp]
  refine ⟨h.sh1, h.sh2, h.inb1, h.inb2, h.st1, h.st2, h.low, h.room, h.cmd, fun j hj => ?_, fun j q hq => ?_, fun j q hj hq => ?_⟩
  · rw [ec]
    unfold upd
    split
    · have := h.cur1 k hk
      refine .inr ⟨?_, ?_⟩
      · show (s.low : Int) ≤ p + 1
        omega
      · show (p : Int) + 1 ≤ s.tail
        omega
    · exact h.cur1 j hj
  · have hq : s.tail ≤ q := hq
    rw [e]
    unfold upd
    split
    · show (if q = p then some x else s.out k q) = none
      rw [if_neg (by omega)]
      exact h.out k q hq
    · exact h.out j q hq
  · rw [ec] at hq
    rw [e]
    have key : ∀ q', q ≤ q' → upd s.out k (upd (s.out k) p (some x)) j q' = none := by
      intro q' hq'
      by_cases e1 : j = k
      · subst e1
        rw [upd_same] at hq
        rw [upd_same, upd_other _ _ (by omega)]
        exact (h.cur2 j p hj hp).2 q' (by omega)
      · rw [upd_other _ _ e1] at hq
        rw [upd_other _ _ e1]
        exact (h.cur2 j q hj hq).2 q' hq'
    exact ⟨key q (Nat.le_refl _), key⟩
set_option maxHeartbeats 4000000 in
theorem logPost {w : World} {lo L : Nat} {b : LogB} {s : LogS} (h : LogAt w lo L b s) (i : Int) (x : OutV) (z : Int) (hx : LostIn w b.C (x, z)) (r : Bool) (hr : s.posts i = r) (s' : LogS) (hs' : (if r = true then s.posted i (x, z) else s) = s') :
    Calls Try.prog 15 #[.pointer (some ⟨L, 0, none⟩), .int .i64 i, .agg x.cells.toArray] w fun e w' => e = .returned (.bool r) ∧ LogAt w' lo L b s' ∧ Only (fun k => k = b.C ∨ ∃ j, j < s.cfg.sh ∧ k = b.bw j) w w' := by
  obtain ⟨la, ln, lc⟩ := x
  have hb1 := bl_alloc (Below.refl _ w) (.cells #[.slice none 0 0, .slice la ln lc, .slice none 0 0, .slice none 0 0] 47)
  have hz := alloc_new w (.cells #[.slice none 0 0, .slice la ln lc, .slice none 0 0, .slice none 0 0] 47)
  have h1 := h.below hb1
  have ho1 : Only (fun k => k = b.C ∨ ∃ j, j < s.cfg.sh ∧ k = b.bw j) w (w.alloc (.cells #[.slice none 0 0, .slice la ln lc, .slice none 0 0, .slice none 0 0] 47)) := (Only.refl _ w).alloc _
  change Calls Try.prog 15 #[.pointer (some ⟨L, 0, none⟩), .int .i64 i, .agg #[.slice none 0 0, .slice la ln lc, .slice none 0 0, .slice none 0 0]] w _
  obtain ⟨cv, hcv⟩ : ∃ cv, s.cursor i = cv := ⟨_, rfl⟩
  have hcb : cv ≤ 9223372036854775807 := by
    rw [← hcv]
    unfold LogS.cursor
    split
    · rename_i g
      have := h.inv.cur1 i.toNat (by omega)
      have := h.lowInt
      omega
    · decide
  have HC := Lib.hid (logCursor h1 i cv hcv)
  obtain ⟨lk, hlk⟩ : ∃ lk, entry CmdV.zero (s.look cv) = lk := ⟨_, rfl⟩
  have HL := Lib.hid (logLook h1 cv hcb lk hlk)
  have hlk2 : lk.2 = (s.look cv).isSome := by rw [← hlk]; cases s.look cv <;> rfl
  obtain ⟨⟨kd, nn⟩, lies⟩ := lk
  dsimp only at hlk2
  unfold LogS.posts at hr
  rw [hcv, ← hlk2] at hr
  by_cases g : cv = -1
  · subst g
    rw [decide_eq_false (fun n => n rfl), Bool.false_and] at hr
    subst hr
    simp only [Bool.false_eq_true, if_false] at hs'
    subst hs'
    have HH := Lib.hid h1
    have HO := Lib.hid ho1
    clear h h1 hb1 hz hx ho1 hcv hlk hlk2
    go_enter Try.func15, Try.ntmps15
    go_wp2_with fail
    refine HC.out.mono ?_
    rintro e w' ⟨rfl, rfl⟩
    go_wp2_with fail
    refine HL.out.mono ?_
    rintro e w2 ⟨rfl, hb2⟩
    have HB2 := Lib.hid hb2
    clear hb2
    simp only [CmdV.cells]
    go_wp2_with fail
    go_ret
    exact ⟨rfl, HH.out.below (bl_alloc HB2.out _), (HO.out.trans (Only.of_below HB2.out)).alloc _⟩
  · rw [decide_eq_true g, Bool.true_and] at hr
    have e1 : (cv == -1) = false := by simpa using g
    cases lies
    · subst hr
      simp only [Bool.false_eq_true, if_false] at hs'
      subst hs'
      have HH := Lib.hid h1
      have HO := Lib.hid ho1
      clear h h1 hb1 hz hx ho1 hcv hlk hlk2
      go_enter Try.func15, Try.ntmps15
      go_wp2_with fail
      refine HC.out.mono ?_
      rintro e w' ⟨rfl, rfl⟩
      go_wp2_with fail
      refine HL.out.mono ?_
      rintro e w2 ⟨rfl, hb2⟩
      have HB2 := Lib.hid hb2
      clear hb2
      simp only [CmdV.cells]
      go_wp2_with fail
      go_ret
      exact ⟨rfl, HH.out.below (bl_alloc HB2.out _), (HO.out.trans (Only.of_below HB2.out)).alloc _⟩
    · subst hr
      simp only [if_true] at hs'
      obtain ⟨k, rfl, hk, hck⟩ := cursor_in (s := s) (i := i) (by rw [hcv]; exact g)
      rw [hcv] at hck
      obtain ⟨p, hp⟩ : ∃ p : Nat, cv = p := ⟨cv.toNat, by have := h.inv.cur1 k hk; omega⟩
      subst hp
      obtain ⟨hp1, hp2⟩ := look_some h.inv hlk2.symm
      have iK : (k : Int) < s.cfg.sh := by omega
      have htl := h.lowInt
      have hstep : ∀ W, Below w.heap.size w W → LogAt W lo L b s ∧ W.cell? ⟨L, 13, none⟩ = some (.slice (some ⟨b.O, 0, none⟩) s.cfg.sh b.oc) ∧ W.cell? ⟨b.O, k, none⟩ = some (.pointer (some ⟨b.rw k, 0, none⟩)) := fun W hW => by
        have hh := h.below hW
        obtain ⟨g', e, _, _, _, hc⟩ := own_some hh.outs (by omega)
        injection e with e
        injection e with e _ _
        subst e
        exact ⟨hh, lgCell hh 13, hc k _ (by simp [ptrCells, hk])⟩
      have hput : ∀ W, Below w.heap.size w W → Calls Try.prog 40 #[.pointer (some ⟨b.rw k, 0, none⟩), .int .i64 p, .agg #[.slice none 0 0, .slice la ln lc, .slice none 0 0, .slice none 0 0]] W fun e W' => e = .returned (.bool true) ∧ Only (fun q => q = b.bw k) W W' ∧ W'.cell? ⟨b.C, k, none⟩ = some (.int .i64 p) ∧ W'.frozen? ⟨b.C, k, none⟩ = false ∧ W'.cell? ⟨L, 12, none⟩ = some (.slice (some ⟨b.C, 0, none⟩) s.cfg.sh s.cfg.sh) ∧
          LogAt (W'.setCell ⟨b.C, k, none⟩ (.int .i64 ((p : Int) + 1))) lo L b s' ∧ Only (fun q => q = b.C ∨ ∃ j, j < s.cfg.sh ∧ q = b.bw j) W (W'.setCell ⟨b.C, k, none⟩ (.int .i64 ((p : Int) + 1))) := fun W hW => by
        have hh := h.below hW
        have hq := oput_any (hh.orng k hk) ⟨la, ln, lc⟩ p (by omega)
        have hno := (h.inv.cur2 k p hk hck.symm).1
        have hok : ook (ringOf OutV.zero s.low s.cfg.inb (s.outv k)) s.low p = true := by
          rw [ook_of]
          have := h.inv.room
          exact decide_eq_true ⟨by omega, by omega, by rw [Int.toNat_natCast]; unfold LogS.outv; rw [hno]; rfl⟩
        rw [hok, if_pos rfl, oput_of hp1 (by have := h.inv.room; omega)] at hq
        refine hq.mono ?_
        rintro e W' ⟨rfl, hr', ho'⟩
        have hx' : LostIn W b.C (⟨la, ln, lc⟩, z) := by
          rcases hx with h1 | ⟨k', h1, h2, h3⟩
          · exact .inl h1
          · exact .inr ⟨k', h1, h2, (hW.block k' (block_lt h3)).trans h3⟩
        have hcc : W'.heap[b.C]? = some (.cells (curCells s).toArray 3 (0, 0)) := ho'.block hh.curs (fun e => blk_ne hh.curs (hh.orng k hk).hB (by decide) e)
        have hLL : W'.heap[L]? = some (.cells (lgCells b s).toArray 94 (0, 0)) := ho'.block hh.hL (fun e => blk_ne hh.hL (hh.orng k hk).hB (by decide) e)
        have ho2 : Only (fun q => q = b.bw k ∨ q = b.C) W (W'.setCell ⟨b.C, k, none⟩ (.int .i64 ((p : Int) + 1))) := (ho'.mono (fun _ e => .inl e)).setCell _ _ (.inl (.inr rfl))
        have hne1 : b.rw k ≠ b.C := blk_ne (hh.orng k hk).hR hh.curs (by decide)
        have hne2 : b.bw k ≠ b.C := blk_ne (hh.orng k hk).hB hh.curs (by decide)
        have hl' : LogAt (W'.setCell ⟨b.C, k, none⟩ (.int .i64 ((p : Int) + 1))) lo L b s' := by
          rw [← hs']
          have hs2 : s.posted k (⟨la, ln, lc⟩, z) = { s with out := upd s.out k (upd (s.out k) p (some (⟨la, ln, lc⟩, z))), cur := upd s.cur k ((p : Int) + 1) } := by
            unfold LogS.posted
            rw [Int.toNat_natCast, ← hck, Int.toNat_natCast]
          have hinv := h.inv.posted hk hck.symm hp2 (⟨la, ln, lc⟩, z)
          rw [hs2] at hinv ⊢
          refine hh.outc hk ho2 _ _ ?_ ?_ (fun j hj => upd_other _ _ hj) (fun q y hy => ?_) hinv
          · rw [outv_put]
            exact hr'.kept (S := fun q => q = b.C) ((Only.refl _ W').setCell _ _ (.inl rfl)) hne1 hne2
          · rw [← curCells_set]
            exact setCell_same hcc _
          · rw [upd_same] at hy
            unfold upd at hy
            split at hy
            · injection hy with hy
              rw [← hy]
              exact hx'
            · exact hh.lost k q y hk hy
        exact ⟨rfl, ho', (cell_of_blk hcc k).trans ((curCells_at s hk).trans (by rw [← hck])), free_of_blk hcc k, cell_of_blk (cs := lgCells b s) hLL 12, hl', ho2.mono (fun q hq => hq.elim (fun e => .inr ⟨k, hk, e⟩) .inl)⟩
      have HPUT := Lib.hid hput
      have HSTEP := Lib.hid hstep
      have HB1 := Lib.hid hb1
      have HZ := Lib.hid hz
      have HO := Lib.hid ho1
      have hws := block_lt h.hL
      clear h h1 hb1 hz hx ho1 hcv hlk hlk2 hput hstep hs' hck
      go_enter Try.func15, Try.ntmps15
      go_wp2_with fail
      refine HC.out.mono ?_
      rintro e w' ⟨rfl, rfl⟩
      go_wp2_with fail
      refine HL.out.mono ?_
      rintro e w2 ⟨rfl, hb2⟩
      simp only [CmdV.cells]
      have hb3 := bl_alloc (bl_then HB1.out hb2) (.cells #[.int .i64 kd, .int .i64 0, .int .i64 nn, .int .i64 0, .int .i64 0, .int .i64 0, .int .i64 0, .int .i64 0, .int .i64 0, .int .i64 0, .int .i64 0, .slice none 0 0, .int .i64 0, .bool false] 39)
      have hz3 := alloc_old ((hb2.block _ (block_lt HZ.out)).trans HZ.out) (.cells #[.int .i64 kd, .int .i64 0, .int .i64 nn, .int .i64 0, .int .i64 0, .int .i64 0, .int .i64 0, .int .i64 0, .int .i64 0, .int .i64 0, .int .i64 0, .slice none 0 0, .int .i64 0, .bool false] 39)
      have ho3 := (HO.out.trans (Only.of_below hb2)).alloc (.cells #[.int .i64 kd, .int .i64 0, .int .i64 nn, .int .i64 0, .int .i64 0, .int .i64 0, .int .i64 0, .int .i64 0, .int .i64 0, .int .i64 0, .int .i64 0, .slice none 0 0, .int .i64 0, .bool false] 39)
      obtain ⟨_, c13, cO⟩ := HSTEP.out _ hb3
      have HP3 := Lib.hid (HPUT.out _ (bl_drew hb3))
      have HO3 := Lib.hid ho3
      have x0 : (w2.alloc (.cells #[.int .i64 kd, .int .i64 0, .int .i64 nn, .int .i64 0, .int .i64 0, .int .i64 0, .int .i64 0, .int .i64 0, .int .i64 0, .int .i64 0, .int .i64 0, .slice none 0 0, .int .i64 0, .bool false] 39)).cell? ⟨w.heap.size, 0, none⟩ = some (.slice none 0 0) := cell_of_blk (cs := [.slice none 0 0, .slice la ln lc, .slice none 0 0, .slice none 0 0]) hz3 0
      have x1 : (w2.alloc (.cells #[.int .i64 kd, .int .i64 0, .int .i64 nn, .int .i64 0, .int .i64 0, .int .i64 0, .int .i64 0, .int .i64 0, .int .i64 0, .int .i64 0, .int .i64 0, .slice none 0 0, .int .i64 0, .bool false] 39)).cell? ⟨w.heap.size, 1, none⟩ = some (.slice la ln lc) := cell_of_blk (cs := [.slice none 0 0, .slice la ln lc, .slice none 0 0, .slice none 0 0]) hz3 1
      have x2 : (w2.alloc (.cells #[.int .i64 kd, .int .i64 0, .int .i64 nn, .int .i64 0, .int .i64 0, .int .i64 0, .int .i64 0, .int .i64 0, .int .i64 0, .int .i64 0, .int .i64 0, .slice none 0 0, .int .i64 0, .bool false] 39)).cell? ⟨w.heap.size, 2, none⟩ = some (.slice none 0 0) := cell_of_blk (cs := [.slice none 0 0, .slice la ln lc, .slice none 0 0, .slice none 0 0]) hz3 2
      have x3 : (w2.alloc (.cells #[.int .i64 kd, .int .i64 0, .int .i64 nn, .int .i64 0, .int .i64 0, .int .i64 0, .int .i64 0, .int .i64 0, .int .i64 0, .int .i64 0, .int .i64 0, .slice none 0 0, .int .i64 0, .bool false] 39)).cell? ⟨w.heap.size, 3, none⟩ = some (.slice none 0 0) := cell_of_blk (cs := [.slice none 0 0, .slice la ln lc, .slice none 0 0, .slice none 0 0]) hz3 3
      have hstill : ∀ w', Only (fun q => q = b.bw k) (w2.alloc (.cells #[.int .i64 kd, .int .i64 0, .int .i64 nn, .int .i64 0, .int .i64 0, .int .i64 0, .int .i64 0, .int .i64 0, .int .i64 0, .int .i64 0, .int .i64 0, .slice none 0 0, .int .i64 0, .bool false] 39)).drew w' → w'.cell? ⟨L, 13, none⟩ = some (.slice (some ⟨b.O, 0, none⟩) s.cfg.sh b.oc) ∧ w'.cell? ⟨b.O, k, none⟩ = some (.pointer (some ⟨b.rw k, 0, none⟩)) ∧ w'.cell? ⟨w.heap.size, 0, none⟩ = some (.slice none 0 0) ∧ w'.cell? ⟨w.heap.size, 1, none⟩ = some (.slice la ln lc) ∧ w'.cell? ⟨w.heap.size, 2, none⟩ = some (.slice none 0 0) ∧ w'.cell? ⟨w.heap.size, 3, none⟩ = some (.slice none 0 0) := fun w' ho => by
        obtain ⟨hh3, _, _⟩ := HSTEP.out _ hb3
        have hL := ho.block (k := L) hh3.hL (blk_ne hh3.hL (hh3.orng k hk).hB (by decide))
        have hX := ho.block (k := w.heap.size) hz3 (blk_ne hz3 (hh3.orng k hk).hB (by decide))
        have hou := ownsRow_keptT hh3.outs (w' := w') (fun q cs fr hc => ho.block hc (blk_ne hc (hh3.orng k hk).hB (by decide)))
        obtain ⟨g', e, _, _, _, hc⟩ := own_some hou (by omega)
        injection e with e
        injection e with e _ _
        subst e
        exact ⟨cell_of_blk (cs := lgCells b s) hL 13, hc k _ (by simp [ptrCells, hk]), cell_of_blk (cs := [.slice none 0 0, .slice la ln lc, .slice none 0 0, .slice none 0 0]) hX 0, cell_of_blk (cs := [.slice none 0 0, .slice la ln lc, .slice none 0 0, .slice none 0 0]) hX 1, cell_of_blk (cs := [.slice none 0 0, .slice la ln lc, .slice none 0 0, .slice none 0 0]) hX 2, cell_of_blk (cs := [.slice none 0 0, .slice la ln lc, .slice none 0 0, .slice none 0 0]) hX 3⟩
      have HSTILL := Lib.hid hstill
      clear hb2 hb3 hz3 ho3 HSTEP HPUT HZ HB1 hstill
      go_wp2_with fail
      go_region_held3 (fun w' => w'.cell? ⟨L, 13, none⟩ = some (.slice (some ⟨b.O, 0, none⟩) s.cfg.sh b.oc) ∧ w'.cell? ⟨b.O, k, none⟩ = some (.pointer (some ⟨b.rw k, 0, none⟩)) ∧ w'.cell? ⟨w.heap.size, 0, none⟩ = some (.slice none 0 0) ∧ w'.cell? ⟨w.heap.size, 1, none⟩ = some (.slice la ln lc) ∧ w'.cell? ⟨w.heap.size, 2, none⟩ = some (.slice none 0 0) ∧ w'.cell? ⟨w.heap.size, 3, none⟩ = some (.slice none 0 0)) (first | exact hcj | exact ⟨c13, cO, x0, x1, x2, x3⟩) (first
        | (go_at_call 40; refine HP3.out.mono ?_; rintro e w5 ⟨rfl, ho5, cC5, fC5, c125, hl5, hf5⟩; have hcj := HSTILL.out w5 ho5; have HL5 := Lib.hid hl5; have HF5 := Lib.hid hf5))
      clear hl5 hf5
      go_wp2_with fail
      go_ret
      exact ⟨rfl, HL5.out, (HO3.out.drew).trans HF5.out⟩
end Go.Proofs.Ytibbnikfecilhaa
