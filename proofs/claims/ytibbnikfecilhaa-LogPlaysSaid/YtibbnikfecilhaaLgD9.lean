/- Chapter 19: the document's Take. (Printed by lggen.py.) -/
import Derived.Test.YtibbnikfecilhaaLgD8
import Derived.Deep.AppendLies
namespace Go.Proofs.Ytibbnikfecilhaa
open Go.RowKit
set_option linter.unusedVariables false
set_option linter.unusedSimpArgs false

def zOut : Nat → OutV := fun _ => OutV.zero
def newCell (X m : Nat) : List Value := [.bool false, .bool false, .int .i64 0, .int .i64 0, .int .i64 0, .int .i64 0, .int .i64 0, .int .i64 0, .int .i64 0, .int .i64 0, .int .i64 0, .int .i64 0, .int .i64 0, .slice none 0 0, .int .i64 0, .bool false,
  .slice (some ⟨X, 0, none⟩) m m, .int .i64 0, .int .i64 0, .slice none 0 0]
theorem RefM.grown {w w7 : World} {lo D : Nat} {M : DocM} (h : RefM w lo D M) {X g cap : Nat} (hX : w.heap[X]? = some (.cells (rowF (outOf zOut) M.m).toArray 47 (0, 0))) (hlo : lo ≤ X) (hfresh : ∀ p, p < M.n → M.ob p ≠ X)
    (hown : w7.ownsRow lo 131 20 (.slice (some ⟨g, 0, none⟩) (M.n + 1) cap) (M.n + 1) (rowF M.cf M.n ++ newCell X M.m)) (hgr : w.grownBy w7 (Value.slice M.A M.n M.cap).ownBlock) :
    (∃ u, w7.cell? ⟨D, 7, none⟩ = some u ∨ M.hd.length ≤ 7) ∧ w7.heap[D]? = some (.cells M.hd.toArray 105 (0, 0)) ∧
    RefM (w7.setCell ⟨D, 7, none⟩ (.slice (some ⟨g, 0, none⟩) (M.n + 1) cap)) lo D ⟨M.hd.set 7 (.slice (some ⟨g, 0, none⟩) (M.n + 1) cap), some ⟨g, 0, none⟩, cap, M.n + 1, upd M.cf M.n (newCell X M.m), M.wb, M.m, M.wf, upd M.ob M.n X, fun p => if p = M.n then outOf zOut else M.of p⟩ ∧ Only (DocK lo w) w w7 := by
  have ho : Only (fun k => (Value.slice M.A M.n M.cap).ownBlock = some k) w w7 := only_grown (Only.refl _ _) hgr (fun k hk => .inl hk)
  have keep : ∀ {k : Nat} {cs : Array Value} {t : TypeId} {fr : Nat × Nat}, w.heap[k]? = some (.cells cs t fr) → t ≠ 131 → w7.heap[k]? = some (.cells cs t fr) := fun hk hn => ho.block hk (not_own_one h.cells hk hn)
  have hD7 := keep h.hD (by decide)
  have keep2 : ∀ {k : Nat} {cs : Array Value} {t : TypeId} {fr : Nat × Nat}, w.heap[k]? = some (.cells cs t fr) → t ≠ 131 → t ≠ 105 → (w7.setCell ⟨D, 7, none⟩ (.slice (some ⟨g, 0, none⟩) (M.n + 1) cap)).heap[k]? = some (.cells cs t fr) := fun hk h1 h2 =>
    setCell_other (keep hk h1) (blk_ne (keep hk h1) hD7 h2) _
  have hdock : Only (DocK lo w) w w7 := by
    refine ho.mono fun k hk => ?_
    rcases h.cells.2 with ⟨h2, _⟩ | ⟨g', cap', cur, e, hb, hg', h3⟩
    · rw [h2] at hk; cases hk
    · injection e with e1 _ _
      rw [e1] at hk
      have e5 : g' = k := by
        simp [Value.ownBlock] at hk
        exact hk
      subst e5
      exact ⟨hb, _, _, _, hg', .inr (.inl rfl)⟩
  refine ⟨?_, hD7, ⟨?_, ?_, keep2 h.wks (by decide) (by decide), fun p hp => ?_, fun p q hp hq hne => ?_, ⟨upd_len h.len.1 rfl, h.len.2.1, fun p i => ?_⟩, h.lo.1, h.lo.2.1, fun p hp => ?_⟩, hdock⟩
  · by_cases hl : M.hd.length ≤ 7
    · exact ⟨.bool false, .inr hl⟩
    · exact ⟨_, .inl ((cell_of_blk hD7 7).trans (List.getElem?_eq_getElem (by omega)))⟩
  · exact setCell_same hD7 _
  · have e : rowF (upd M.cf M.n (newCell X M.m)) (M.n + 1) = rowF M.cf M.n ++ newCell X M.m := by
      rw [rowF_succ, upd_same]
      refine congrArg (· ++ _) (rowF_congr fun p hp => upd_other _ _ (by omega))
    show (w7.setCell ⟨D, 7, none⟩ (.slice (some ⟨g, 0, none⟩) (M.n + 1) cap)).ownsRow lo 131 20 (.slice (some ⟨g, 0, none⟩) (M.n + 1) cap) (M.n + 1) (rowF (upd M.cf M.n (newCell X M.m)) (M.n + 1))
    rw [e]
    refine ⟨hown.1, ?_⟩
    rcases hown.2 with h2 | ⟨g', cap', cur, e, hb, hg, h3⟩
    · exact .inl h2
    · exact .inr ⟨g', cap', cur, e, hb, setCell_other hg (blk_ne hg hD7 (by decide)) _, h3⟩
  · show (w7.setCell ⟨D, 7, none⟩ (.slice (some ⟨g, 0, none⟩) (M.n + 1) cap)).heap[upd M.ob M.n X p]? = some (.cells (rowF (if p = M.n then outOf zOut else M.of p) M.m).toArray 47 (0, 0))
    by_cases e : p = M.n
    · subst e
      rw [upd_same, if_pos rfl]
      exact keep2 hX (by decide) (by decide)
    · rw [upd_other _ _ e, if_neg e]
      change p < M.n + 1 at hp
      exact keep2 (h.outs p (by omega)) (by decide) (by decide)
  · show upd M.ob M.n X p ≠ upd M.ob M.n X q
    change p < M.n + 1 at hp
    change q < M.n + 1 at hq
    by_cases e1 : p = M.n
    · subst e1
      rw [upd_same, upd_other _ _ (by omega)]
      exact (hfresh q (by omega)).symm
    · by_cases e2 : q = M.n
      · subst e2
        rw [upd_same, upd_other _ _ e1]
        exact hfresh p (by omega)
      · rw [upd_other _ _ e1, upd_other _ _ e2]
        exact h.inj p q (by omega) (by omega) hne
  · show ((if p = M.n then outOf zOut else M.of p) i).length = 4
    split
    · rfl
    · exact h.len.2.2 p i
  · show lo ≤ upd M.ob M.n X p
    change p < M.n + 1 at hp
    by_cases e : p = M.n
    · subst e; rw [upd_same]; exact hlo
    · rw [upd_other _ _ e]; exact h.lo.2.2 p (by omega)
/-- A stamp more. -/
theorem RefAt.taken {w w' : World} {lo D C : Nat} {d : DocB} {s : LogS} (h : RefAt w lo D C d s) (c : Bool) {X g cap : Nat} (h1 : (s.tail : Int) ≠ s.cfg.st) (h2 : s.tail - s.low < s.cfg.inb) (hs : s.tail + 1 ≤ 1000000) (ho : Only (DocK lo w) w w')
    (hm : RefM w' lo D ⟨((docCells d s).set 7 (.slice (some ⟨g, 0, none⟩) (s.tail + 1) cap)).set 8 (.bool (s.closed || c)), some ⟨g, 0, none⟩, cap, s.tail + 1, upd (cellOf d s) s.tail (newCell X s.cfg.sh), d.wb, s.cfg.sh, wkOf d, upd d.ob s.tail X, fun p => if p = s.tail then outOf zOut else outOf (d.ov p)⟩) :
    RefAt w' lo D C { d with A := some ⟨g, 0, none⟩, cap := cap, ob := upd d.ob s.tail X, aN := upd d.aN s.tail 0, ov := fun p => if p = s.tail then zOut else d.ov p } (s.taken c) := by
  have hcmd := h.inv.cmd s.tail (Nat.le_refl _)
  have hans : s.ans (s.tail : Nat) = none := by
    cases ha : s.ans (s.tail : Nat) with
    | none => rfl
    | some z =>
      have := h.ansIn s.tail (by rw [ha]; rfl)
      omega
  refine ⟨hm.congr rfl ⟨rfl, rfl, rfl, rfl, rfl, rfl⟩ (fun p hp => ?_) (fun i _ => rfl) (fun p i _ _ => ?_) (docM_len _ _), fun p i hp hi => ?_, h.cur, h.at0, fun p z hp => ?_, fun k hk => ?_, h.inv.taken c h1 h2, hs⟩
  · show upd (cellOf d s) s.tail (newCell X s.cfg.sh) p = cellOf _ (s.taken c) p
    by_cases e : p = s.tail
    · subst e
      rw [upd_same]
      unfold cellOf newCell LogS.cmdV
      have e1 : (s.taken c).cmd s.tail = none := hcmd
      have e2 : (s.taken c).ans s.tail = none := hans
      rw [e1, e2]
      simp only [upd_same]
      rfl
    · rw [upd_other _ _ e]
      unfold cellOf
      simp only [upd_other _ _ e]
      rfl
  · show (if p = s.tail then outOf zOut else outOf (d.ov p)) i = outOf (if p = s.tail then zOut else d.ov p) i
    by_cases e : p = s.tail
    · rw [if_pos e, if_pos e]
    · rw [if_neg e, if_neg e]
  · change p < s.tail + 1 at hp
    show LostIn w' C ((if p = s.tail then zOut else d.ov p) i, s.num i p)
    by_cases e : p = s.tail
    · subst e
      rw [if_pos rfl]
      refine .inl ?_
      unfold LogS.num
      rw [h.inv.out i s.tail (Nat.le_refl _)]
      rfl
    · rw [if_neg e]
      exact (h.lost p i (by omega) hi).keptK ho
  · show upd d.aN s.tail 0 p = z
    have hp' : s.ans p = some z := hp
    have := h.ansIn p (by rw [hp']; rfl)
    rw [upd_other _ _ (by omega)]
    exact h.ans p z hp'
  · have := h.ansIn k hk
    show 0 ≤ k ∧ k < ((s.tail + 1 : Nat) : Int)
    omega
end Go.Proofs.Ytibbnikfecilhaa
