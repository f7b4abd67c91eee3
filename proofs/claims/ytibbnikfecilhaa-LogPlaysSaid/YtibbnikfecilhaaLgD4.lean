/- Chapter 19: the document's Fill. (Printed by lggen.py.) -/
import Derived.Test.YtibbnikfecilhaaLgD3
namespace Go.Proofs.Ytibbnikfecilhaa
open Go.RowKit
set_option linter.unusedVariables false
set_option linter.unusedSimpArgs false

section
variable {w : World} {lo D C : Nat} {d : DocB} {s : LogS}
/-- The document's memory, where a cell's flag and its command are laid. -/
def docFill (d : DocB) (s : LogS) (p : Nat) (x : CmdV) : Nat → List Value :=
  upd (upd (cellOf d s) p (putL (cellOf d s p) 0 [.bool true])) p (putL (upd (cellOf d s) p (putL (cellOf d s p) 0 [.bool true]) p) 2 x.cells)
theorem RefAt.fillM (h : RefAt w lo D C d s) {p : Nat} (hp : p < s.tail) {g : Nat} (hA : d.A = some ⟨g, 0, none⟩) : RefM (w.setCell ⟨g, p * 20, none⟩ (.bool true)) lo D { docM d s with cf := upd (cellOf d s) p (putL (cellOf d s p) 0 [.bool true]) } := by
  have := h.mem.cellput (g := g) (p := p) (o := 0) hA hp [.bool true] (by decide)
  exact this
theorem RefAt.filled (h : RefAt w lo D C d s) {p : Nat} (x : CmdV) (hp : p < s.tail) {w' : World} (ho : Only (DocK lo w) w w') (hm : RefM w' lo D { docM d s with cf := docFill d s p x }) : RefAt w' lo D C d (s.filled p x) := by
  refine ⟨?_, fun q i hq hi => (h.lost q i hq hi).keptK ho, h.cur, h.at0, h.ans, h.ansIn, h.inv.filled p x (by omega) (by omega), h.small⟩
  refine hm.congr rfl ⟨rfl, rfl, rfl, rfl, rfl, rfl⟩ (fun q hq => ?_) (fun i hi => rfl) (fun q i hq hi => rfl) (docM_len _ _)
  show docFill d s p x q = cellOf d (s.filled p x) q
  unfold docFill
  by_cases e : q = p
  · subst e
    rw [upd_same, upd_same]
    unfold cellOf
    have e1 : (s.filled q x).cmd q = some x := by
      show upd s.cmd (q : Int).toNat (some x) q = some x
      rw [Int.toNat_natCast, upd_same]
    have e2 : (s.filled q x).cmdV q = x := by unfold LogS.cmdV; rw [e1]; rfl
    rw [e1, e2]
    rfl
  · rw [upd_other _ _ e, upd_other _ _ e]
    unfold cellOf LogS.cmdV
    have e1 : (s.filled p x).cmd q = s.cmd q := by
      show upd s.cmd (p : Int).toNat (some x) q = s.cmd q
      rw [Int.toNat_natCast, upd_other _ _ e]
    rw [e1]
    rfl
set_option maxHeartbeats 8000000 in
set_option maxRecDepth 20000 in
theorem refFill (h : RefAt w lo D C d s) (at_ : Int) (x : CmdV) (r : Bool) (hr : s.fills at_ = r) (s' : LogS) (hs' : (if r = true then s.filled at_ x else s) = s') :
    Calls Try.prog 49 #[.pointer (some ⟨D, 0, none⟩), .int .i64 at_, .agg x.cells.toArray] w fun e w' => e = .returned (.bool r) ∧ RefAt w' lo D C d s' ∧ Only (DocK lo w) w w' := by
  obtain ⟨kd, nn⟩ := x
  have hb := bl_alloc (Below.refl _ w) (.cells #[.int .i64 kd, .int .i64 0, .int .i64 nn, .int .i64 0, .int .i64 0, .int .i64 0, .int .i64 0, .int .i64 0, .int .i64 0, .int .i64 0, .int .i64 0, .slice none 0 0, .int .i64 0, .bool false] 39)
  have hz := alloc_new w (.cells #[.int .i64 kd, .int .i64 0, .int .i64 nn, .int .i64 0, .int .i64 0, .int .i64 0, .int .i64 0, .int .i64 0, .int .i64 0, .int .i64 0, .int .i64 0, .slice none 0 0, .int .i64 0, .bool false] 39)
  have h1 := h.below hb
  have ho1 : Only (DocK lo w) w (w.alloc (.cells #[.int .i64 kd, .int .i64 0, .int .i64 nn, .int .i64 0, .int .i64 0, .int .i64 0, .int .i64 0, .int .i64 0, .int .i64 0, .int .i64 0, .int .i64 0, .slice none 0 0, .int .i64 0, .bool false] 39)) := Only.of_below hb
  have c7 : (w.alloc (.cells #[.int .i64 kd, .int .i64 0, .int .i64 nn, .int .i64 0, .int .i64 0, .int .i64 0, .int .i64 0, .int .i64 0, .int .i64 0, .int .i64 0, .int .i64 0, .slice none 0 0, .int .i64 0, .bool false] 39)).cell? ⟨D, 7, none⟩ = some (.slice d.A s.tail d.cap) := h1.cell 7
  have c9 : (w.alloc (.cells #[.int .i64 kd, .int .i64 0, .int .i64 nn, .int .i64 0, .int .i64 0, .int .i64 0, .int .i64 0, .int .i64 0, .int .i64 0, .int .i64 0, .int .i64 0, .slice none 0 0, .int .i64 0, .bool false] 39)).cell? ⟨D, 9, none⟩ = some (.int .i64 s.low) := h1.cell 9
  change Calls Try.prog 49 #[.pointer (some ⟨D, 0, none⟩), .int .i64 at_, .agg #[.int .i64 kd, .int .i64 0, .int .i64 nn, .int .i64 0, .int .i64 0, .int .i64 0, .int .i64 0, .int .i64 0, .int .i64 0, .int .i64 0, .int .i64 0, .slice none 0 0, .int .i64 0, .bool false]] w _
  unfold LogS.fills at hr
  have hrm := h.inv.room
  have hbnd := h.small
  by_cases g1 : at_ < s.low
  · rw [decide_eq_false (p := (s.low : Int) ≤ at_ ∧ _) (by omega), Bool.and_false] at hr
    subst hr
    simp only [Bool.false_eq_true, if_false] at hs'
    subst hs'
    have HH := Lib.hid h1
    have HO := Lib.hid ho1
    clear h h1 hb hz ho1
    go_enter Try.func49, Try.ntmps49
    go_wp2_with fail
    go_ret
    exact ⟨rfl, HH.out, HO.out⟩
  · by_cases g2 : at_ < s.tail
    · obtain ⟨p, rfl⟩ : ∃ p : Nat, at_ = p := ⟨at_.toNat, by omega⟩
      have hp : p < s.tail := by omega
      obtain ⟨g, hA, _, hcap, hgk, hcg, hfg⟩ := h1.block hp
      rw [hA] at c7
      have y0 : (w.alloc (.cells #[.int .i64 kd, .int .i64 0, .int .i64 nn, .int .i64 0, .int .i64 0, .int .i64 0, .int .i64 0, .int .i64 0, .int .i64 0, .int .i64 0, .int .i64 0, .slice none 0 0, .int .i64 0, .bool false] 39)).cell? ⟨g, p * 20, none⟩ = some (.bool (s.cmd p).isSome) := hcg 0 (by decide)
      cases hc : s.cmd p with
      | some c =>
        rw [Int.toNat_natCast, hc, decide_eq_false (p := _ ∧ _) (by simp), Bool.and_false] at hr
        subst hr
        simp only [Bool.false_eq_true, if_false] at hs'
        subst hs'
        rw [hc] at y0
        change _ = some (Value.bool true) at y0
        have HH := Lib.hid h1
        have HO := Lib.hid ho1
        clear h h1 hb hz ho1 hc hcg hfg hgk hA
        go_enter Try.func49, Try.ntmps49
        go_wp2_with fail
        go_ret
        exact ⟨rfl, HH.out, HO.out⟩
      | none =>
        rw [Int.toNat_natCast, hc, decide_eq_true (p := _ ∧ _) ⟨by omega, by omega, rfl⟩, decide_eq_true (p := (p : Int) < s.tail) g2] at hr
        change true = r at hr
        subst hr
        simp only [if_true] at hs'
        subst hs'
        rw [hc] at y0
        change _ = some (Value.bool false) at y0
        have fg := hfg (p * 20)
        have HM := Lib.hid (h1.fillM hp hA)
        have HH := Lib.hid h
        have HO : Hid (Only (DocK lo w) w ((w.alloc (.cells #[.int .i64 kd, .int .i64 0, .int .i64 nn, .int .i64 0, .int .i64 0, .int .i64 0, .int .i64 0, .int .i64 0, .int .i64 0, .int .i64 0, .int .i64 0, .slice none 0 0, .int .i64 0, .bool false] 39)).setCell ⟨g, p * 20, none⟩ (.bool true))) := Lib.hid (only_dock ho1 ((Only.refl _ _).setCell _ _ (.inl hgk)))
        have hgz : g ≠ w.heap.size := blk_ne hgk.2.choose_spec.choose_spec.choose_spec.1 hz (by
          rcases hgk.2.choose_spec.choose_spec.choose_spec.2 with e | e | e | e <;> rw [e] <;> decide)
        have HZ : Hid (((w.alloc (.cells #[.int .i64 kd, .int .i64 0, .int .i64 nn, .int .i64 0, .int .i64 0, .int .i64 0, .int .i64 0, .int .i64 0, .int .i64 0, .int .i64 0, .int .i64 0, .slice none 0 0, .int .i64 0, .bool false] 39)).setCell ⟨g, p * 20, none⟩ (.bool true)).heap[w.heap.size]? = some (.cells #[.int .i64 kd, .int .i64 0, .int .i64 nn, .int .i64 0, .int .i64 0, .int .i64 0, .int .i64 0, .int .i64 0, .int .i64 0, .int .i64 0, .int .i64 0, .slice none 0 0, .int .i64 0, .bool false] 39 (0, 0))) := Lib.hid (setCell_other hz (Ne.symm hgz) _)
        have HA := Lib.hid hA
        clear h h1 hb ho1 hc hcg hfg hgk hz hA
        go_enter Try.func49, Try.ntmps49
        go_wp2_with fail
        obtain ⟨Z, hZ⟩ : ∃ Z, Z = w.heap.size := ⟨_, rfl⟩
        rw [← hZ] at HZ
        rw [← hZ]
        clear hZ hgz
        generalize (w.alloc (.cells #[.int .i64 kd, .int .i64 0, .int .i64 nn, .int .i64 0, .int .i64 0, .int .i64 0, .int .i64 0, .int .i64 0, .int .i64 0, .int .i64 0, .int .i64 0, .slice none 0 0, .int .i64 0, .bool false] 39)).setCell ⟨g, p * 20, none⟩ (.bool true) = w2 at *
        have b7 : w2.cell? ⟨D, 7, none⟩ = some (.slice (some ⟨g, 0, none⟩) s.tail d.cap) := by rw [← HA.out]; exact cell_of_blk HM.out.hD 7
        have v0 : w2.cell? ⟨Z, 0, none⟩ = some (.int .i64 kd) := cell_of_blk (cs := [.int .i64 kd, .int .i64 0, .int .i64 nn, .int .i64 0, .int .i64 0, .int .i64 0, .int .i64 0, .int .i64 0, .int .i64 0, .int .i64 0, .int .i64 0, .slice none 0 0, .int .i64 0, .bool false]) HZ.out 0
        have v1 : w2.cell? ⟨Z, 1, none⟩ = some (.int .i64 0) := cell_of_blk (cs := [.int .i64 kd, .int .i64 0, .int .i64 nn, .int .i64 0, .int .i64 0, .int .i64 0, .int .i64 0, .int .i64 0, .int .i64 0, .int .i64 0, .int .i64 0, .slice none 0 0, .int .i64 0, .bool false]) HZ.out 1
        have v2 : w2.cell? ⟨Z, 2, none⟩ = some (.int .i64 nn) := cell_of_blk (cs := [.int .i64 kd, .int .i64 0, .int .i64 nn, .int .i64 0, .int .i64 0, .int .i64 0, .int .i64 0, .int .i64 0, .int .i64 0, .int .i64 0, .int .i64 0, .slice none 0 0, .int .i64 0, .bool false]) HZ.out 2
        have v3 : w2.cell? ⟨Z, 3, none⟩ = some (.int .i64 0) := cell_of_blk (cs := [.int .i64 kd, .int .i64 0, .int .i64 nn, .int .i64 0, .int .i64 0, .int .i64 0, .int .i64 0, .int .i64 0, .int .i64 0, .int .i64 0, .int .i64 0, .slice none 0 0, .int .i64 0, .bool false]) HZ.out 3
        have v4 : w2.cell? ⟨Z, 4, none⟩ = some (.int .i64 0) := cell_of_blk (cs := [.int .i64 kd, .int .i64 0, .int .i64 nn, .int .i64 0, .int .i64 0, .int .i64 0, .int .i64 0, .int .i64 0, .int .i64 0, .int .i64 0, .int .i64 0, .slice none 0 0, .int .i64 0, .bool false]) HZ.out 4
        have v5 : w2.cell? ⟨Z, 5, none⟩ = some (.int .i64 0) := cell_of_blk (cs := [.int .i64 kd, .int .i64 0, .int .i64 nn, .int .i64 0, .int .i64 0, .int .i64 0, .int .i64 0, .int .i64 0, .int .i64 0, .int .i64 0, .int .i64 0, .slice none 0 0, .int .i64 0, .bool false]) HZ.out 5
        have v6 : w2.cell? ⟨Z, 6, none⟩ = some (.int .i64 0) := cell_of_blk (cs := [.int .i64 kd, .int .i64 0, .int .i64 nn, .int .i64 0, .int .i64 0, .int .i64 0, .int .i64 0, .int .i64 0, .int .i64 0, .int .i64 0, .int .i64 0, .slice none 0 0, .int .i64 0, .bool false]) HZ.out 6
        have v7 : w2.cell? ⟨Z, 7, none⟩ = some (.int .i64 0) := cell_of_blk (cs := [.int .i64 kd, .int .i64 0, .int .i64 nn, .int .i64 0, .int .i64 0, .int .i64 0, .int .i64 0, .int .i64 0, .int .i64 0, .int .i64 0, .int .i64 0, .slice none 0 0, .int .i64 0, .bool false]) HZ.out 7
        have v8 : w2.cell? ⟨Z, 8, none⟩ = some (.int .i64 0) := cell_of_blk (cs := [.int .i64 kd, .int .i64 0, .int .i64 nn, .int .i64 0, .int .i64 0, .int .i64 0, .int .i64 0, .int .i64 0, .int .i64 0, .int .i64 0, .int .i64 0, .slice none 0 0, .int .i64 0, .bool false]) HZ.out 8
        have v9 : w2.cell? ⟨Z, 9, none⟩ = some (.int .i64 0) := cell_of_blk (cs := [.int .i64 kd, .int .i64 0, .int .i64 nn, .int .i64 0, .int .i64 0, .int .i64 0, .int .i64 0, .int .i64 0, .int .i64 0, .int .i64 0, .int .i64 0, .slice none 0 0, .int .i64 0, .bool false]) HZ.out 9
        have v10 : w2.cell? ⟨Z, 10, none⟩ = some (.int .i64 0) := cell_of_blk (cs := [.int .i64 kd, .int .i64 0, .int .i64 nn, .int .i64 0, .int .i64 0, .int .i64 0, .int .i64 0, .int .i64 0, .int .i64 0, .int .i64 0, .int .i64 0, .slice none 0 0, .int .i64 0, .bool false]) HZ.out 10
        have v11 : w2.cell? ⟨Z, 11, none⟩ = some (.slice none 0 0) := cell_of_blk (cs := [.int .i64 kd, .int .i64 0, .int .i64 nn, .int .i64 0, .int .i64 0, .int .i64 0, .int .i64 0, .int .i64 0, .int .i64 0, .int .i64 0, .int .i64 0, .slice none 0 0, .int .i64 0, .bool false]) HZ.out 11
        have v12 : w2.cell? ⟨Z, 12, none⟩ = some (.int .i64 0) := cell_of_blk (cs := [.int .i64 kd, .int .i64 0, .int .i64 nn, .int .i64 0, .int .i64 0, .int .i64 0, .int .i64 0, .int .i64 0, .int .i64 0, .int .i64 0, .int .i64 0, .slice none 0 0, .int .i64 0, .bool false]) HZ.out 12
        have v13 : w2.cell? ⟨Z, 13, none⟩ = some (.bool false) := cell_of_blk (cs := [.int .i64 kd, .int .i64 0, .int .i64 nn, .int .i64 0, .int .i64 0, .int .i64 0, .int .i64 0, .int .i64 0, .int .i64 0, .int .i64 0, .int .i64 0, .slice none 0 0, .int .i64 0, .bool false]) HZ.out 13
        clear c7 c9 y0 fg
        go_still_tail 8, (by kernel_rfl)
        change wpList _ _ _ _ _ w2.drew
        have HM3 := Lib.hid (HM.out.below (bl_drew (Below.refl _ _)))
        have HO3 := Lib.hid HO.out.drew
        clear HM HO HZ b7 v0 v1 v2 v3 v4 v5 v6 v7 v8 v9 v10 v11 v12 v13
        generalize w2.drew = w3 at *
        obtain ⟨g', cs, hA', hglo, _, hgc, hcell, hfr⟩ := HM3.out.block (by show 0 < s.tail; omega)
        obtain rfl : g = g' := by
          have e : d.A = some ⟨g', 0, none⟩ := hA'
          rw [HA.out] at e
          injection e with e
          injection e
        have hl : ∀ j, j < 20 → ∃ u, w3.cell? ⟨g, p * 20 + j, none⟩ = some u := fun j hj => by
          rw [hcell p j hp hj]
          exact ⟨_, List.getElem?_eq_getElem (by rw [HM3.out.len.1]; exact hj)⟩
        have HFR := Lib.hid hfr
        have HL := Lib.hid hl
        clear hcell hA' hfr hl
        obtain ⟨u0, hu0⟩ := HL.out (2 + 0) (by decide)
        obtain ⟨u1, hu1⟩ := HL.out (2 + 1) (by decide)
        obtain ⟨u2, hu2⟩ := HL.out (2 + 2) (by decide)
        obtain ⟨u3, hu3⟩ := HL.out (2 + 3) (by decide)
        obtain ⟨u4, hu4⟩ := HL.out (2 + 4) (by decide)
        obtain ⟨u5, hu5⟩ := HL.out (2 + 5) (by decide)
        obtain ⟨u6, hu6⟩ := HL.out (2 + 6) (by decide)
        obtain ⟨u7, hu7⟩ := HL.out (2 + 7) (by decide)
        obtain ⟨u8, hu8⟩ := HL.out (2 + 8) (by decide)
        obtain ⟨u9, hu9⟩ := HL.out (2 + 9) (by decide)
        obtain ⟨u10, hu10⟩ := HL.out (2 + 10) (by decide)
        obtain ⟨u11, hu11⟩ := HL.out (2 + 11) (by decide)
        obtain ⟨u12, hu12⟩ := HL.out (2 + 12) (by decide)
        obtain ⟨u13, hu13⟩ := HL.out (2 + 13) (by decide)
        have t0 : w3.cell? ⟨g, p * 20 + 2 + 0, none⟩ = some u0 := by rw [Nat.add_assoc]; exact hu0
        have t1 : w3.cell? ⟨g, p * 20 + 2 + 1, none⟩ = some u1 := by rw [Nat.add_assoc]; exact hu1
        have t2 : w3.cell? ⟨g, p * 20 + 2 + 2, none⟩ = some u2 := by rw [Nat.add_assoc]; exact hu2
        have t3 : w3.cell? ⟨g, p * 20 + 2 + 3, none⟩ = some u3 := by rw [Nat.add_assoc]; exact hu3
        have t4 : w3.cell? ⟨g, p * 20 + 2 + 4, none⟩ = some u4 := by rw [Nat.add_assoc]; exact hu4
        have t5 : w3.cell? ⟨g, p * 20 + 2 + 5, none⟩ = some u5 := by rw [Nat.add_assoc]; exact hu5
        have t6 : w3.cell? ⟨g, p * 20 + 2 + 6, none⟩ = some u6 := by rw [Nat.add_assoc]; exact hu6
        have t7 : w3.cell? ⟨g, p * 20 + 2 + 7, none⟩ = some u7 := by rw [Nat.add_assoc]; exact hu7
        have t8 : w3.cell? ⟨g, p * 20 + 2 + 8, none⟩ = some u8 := by rw [Nat.add_assoc]; exact hu8
        have t9 : w3.cell? ⟨g, p * 20 + 2 + 9, none⟩ = some u9 := by rw [Nat.add_assoc]; exact hu9
        have t10 : w3.cell? ⟨g, p * 20 + 2 + 10, none⟩ = some u10 := by rw [Nat.add_assoc]; exact hu10
        have t11 : w3.cell? ⟨g, p * 20 + 2 + 11, none⟩ = some u11 := by rw [Nat.add_assoc]; exact hu11
        have t12 : w3.cell? ⟨g, p * 20 + 2 + 12, none⟩ = some u12 := by rw [Nat.add_assoc]; exact hu12
        have t13 : w3.cell? ⟨g, p * 20 + 2 + 13, none⟩ = some u13 := by rw [Nat.add_assoc]; exact hu13
        have f0 := HFR.out (p * 20 + 2 + 0)
        have f1 := HFR.out (p * 20 + 2 + 1)
        have f2 := HFR.out (p * 20 + 2 + 2)
        have f3 := HFR.out (p * 20 + 2 + 3)
        have f4 := HFR.out (p * 20 + 2 + 4)
        have f5 := HFR.out (p * 20 + 2 + 5)
        have f6 := HFR.out (p * 20 + 2 + 6)
        have f7 := HFR.out (p * 20 + 2 + 7)
        have f8 := HFR.out (p * 20 + 2 + 8)
        have f9 := HFR.out (p * 20 + 2 + 9)
        have f10 := HFR.out (p * 20 + 2 + 10)
        have f11 := HFR.out (p * 20 + 2 + 11)
        have f12 := HFR.out (p * 20 + 2 + 12)
        have f13 := HFR.out (p * 20 + 2 + 13)
        clear hu0 hu1 hu2 hu3 hu4 hu5 hu6 hu7 hu8 hu9 hu10 hu11 hu12 hu13
        have hfin := HM3.out.cellput (g := g) (p := p) (o := 2) HA.out hp (CmdV.cells ⟨kd, nn⟩) (by rw [CmdV.len]; decide)
        have HFIN := Lib.hid hfin
        have HOF := Lib.hid (puts_only (S := DocK lo w3) ⟨hglo, _, _, _, hgc, .inr (.inl rfl)⟩ (CmdV.cells ⟨kd, nn⟩) w3 w3 (p * 20 + 2) (Only.refl _ _))
        clear hfin hgc hglo
        go_wp2
        change bodyPost _ _ _ _ _ (puts w3 g (p * 20 + 2) (CmdV.cells ⟨kd, nn⟩))
        go_ret
        have ho := only_dock HO3.out HOF.out
        exact ⟨rfl, HH.out.filled ⟨kd, nn⟩ hp ho HFIN.out, ho⟩
    · rw [decide_eq_false g2, Bool.false_and] at hr
      subst hr
      simp only [Bool.false_eq_true, if_false] at hs'
      subst hs'
      have HH := Lib.hid h1
      have HO := Lib.hid ho1
      clear h h1 hb hz ho1
      go_enter Try.func49, Try.ntmps49
      go_wp2_with fail
      go_ret
      exact ⟨rfl, HH.out, HO.out⟩
end
end Go.Proofs.Ytibbnikfecilhaa
