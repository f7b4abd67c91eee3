/- Chapter 19: the document's Reply. (Printed by lggen.py.) -/
import Derived.Test.YtibbnikfecilhaaLgD5
namespace Go.Proofs.Ytibbnikfecilhaa
open Go.RowKit
set_option linter.unusedVariables false
set_option linter.unusedSimpArgs false

section
variable {w : World} {lo D C : Nat} {d : DocB} {s : LogS}
theorem LogI.reans (h : LogI s) (a : Int → Option Int) : LogI { s with ans := a } := ⟨h.sh1, h.sh2, h.inb1, h.inb2, h.st1, h.st2, h.low, h.room, h.cmd, h.cur1, h.out, h.cur2⟩
/-- The low one goes up. -/
theorem RefAt.lowered (h : RefAt w lo D C d s) (kd an : Int) (hi : LogI s.lowered) (hl : s.low < s.tail) {w' : World} (ho : Only (DocK lo w) w w') (M : DocM) (hm : RefM w' lo D M)
    (h1 : M.hd = docCells d (s.replied kd an)) (h2 : M.A = d.A ∧ M.cap = d.cap ∧ M.n = s.tail ∧ M.wb = d.wb ∧ M.m = s.cfg.sh ∧ M.ob = d.ob) (hw : M.wf = wkOf d) (hof : M.of = fun p => outOf (d.ov p)) (aN : Nat → Int) (ha : ∀ (p : Nat) z, (s.replied kd an).ans p = some z → aN p = z) (hin : kd ≠ 1 ∨ (s.replied kd an).ans = s.ans)
    (hc : ∀ p, p < s.tail → M.cf p = cellOf { d with aN := aN } (s.replied kd an) p) : RefAt w' lo D C { d with aN := aN } (s.replied kd an) := by
  refine ⟨hm.congr (N := docM { d with aN := aN } (s.replied kd an)) h1 h2 hc (fun i _ => by rw [hw]; rfl) (fun p i _ _ => by rw [hof]; rfl) (docM_len _ _), fun q i hq hi => (h.lost q i hq hi).keptK ho, h.cur, h.at0, ha, fun k hk => ?_, hi.reans _, h.small⟩
  by_cases e : k = s.low
  · subst e
    exact ⟨by omega, by show (s.low : Int) < s.tail; omega⟩
  · refine h.ansIn k ?_
    rcases hin with hkd | hs
    · have e1 : (s.replied kd an).ans k = s.ans k := by
        show s.answered kd an k = s.ans k
        unfold LogS.answered
        rw [if_neg hkd]
        exact if_neg e
      rw [e1] at hk
      exact hk
    · rw [hs] at hk
      exact hk
theorem ans_at_low (s : LogS) {kd : Int} (an : Int) (h : kd ≠ 1) (p : Nat) : (s.replied kd an).ans p = if p = s.low then some an else s.ans p := by
  show s.answered kd an p = _
  unfold LogS.answered
  rw [if_neg h]
  by_cases e : p = s.low
  · rw [if_pos (by omega), if_pos e]
  · rw [if_neg (by omega), if_neg e]
theorem ans_pub (s : LogS) (an : Int) : (s.replied 1 an).ans = s.ans := by
  show s.answered 1 an = _
  unfold LogS.answered
  rw [if_pos rfl]
set_option maxHeartbeats 4000000 in
set_option maxRecDepth 20000 in
theorem refReply_no (h : RefAt w lo D C d s) (an : Int) (hno : s.collect = none) :
    Calls Try.prog 52 #[.pointer (some ⟨D, 0, none⟩), .agg #[.int .i64 0, .int .i64 an, .slice none 0 0]] w fun e w' => e = .returned (.bool false) ∧ Below w.heap.size w w' := by
  have hb1 := bl_alloc (Below.refl _ w) (.cells #[.int .i64 0, .int .i64 an, .slice none 0 0] 58)
  have HC := Lib.hid (refCollect (h.below hb1) false (by rw [hno]; rfl))
  have HB := Lib.hid hb1
  clear h hb1
  go_enter Try.func52, Try.ntmps52
  go_wp2_with fail
  refine HC.out.mono ?_
  rintro e w2 ⟨rfl, hb2⟩
  have HB2 := Lib.hid (bl_then HB.out hb2)
  clear hb2
  go_wp2_with fail
  go_ret
  exact ⟨rfl, HB2.out⟩
set_option maxHeartbeats 8000000 in
set_option maxRecDepth 20000 in
theorem refReply_yes (h : RefAt w lo D C d s) (an : Int) {l : List (OutV × Int)} (hc : s.collect = some l) {c : CmdV} (hl : s.look s.low = some c) :
    Calls Try.prog 52 #[.pointer (some ⟨D, 0, none⟩), .agg #[.int .i64 0, .int .i64 an, .slice none 0 0]] w fun e w' => e = .returned (.bool true) ∧ (∃ d', RefAt w' lo D C d' (s.replied c.kind an)) ∧ Only (DocK lo w) w w' := by
  obtain ⟨c', hl', hw, _⟩ := collect_some hc
  rw [hl] at hl'
  injection hl' with hl'
  subst hl'
  have hinv := replied_ok h.inv hl hw
  obtain ⟨_, hlt⟩ := look_some h.inv (show (s.look s.low).isSome = true by rw [hl]; rfl)
  have hcv : s.cmdV s.low = c := by
    have := hl
    rw [ref_lies h (Nat.le_refl _)] at this
    unfold LogS.cmdV
    rw [this]
    rfl
  have hb1 := bl_alloc (Below.refl _ w) (.cells #[.int .i64 0, .int .i64 an, .slice none 0 0] 58)
  have hz := alloc_new w (.cells #[.int .i64 0, .int .i64 an, .slice none 0 0] 58)
  have h1 := h.below hb1
  have ho1 : Only (DocK lo w) w (w.alloc (.cells #[.int .i64 0, .int .i64 an, .slice none 0 0] 58)) := Only.of_below hb1
  have HC := Lib.hid (refCollect h1 true (by rw [hc]; rfl))
  have hbnd := h.small
  have HH := Lib.hid h
  have H1 := Lib.hid h1
  have HO1 := Lib.hid ho1
  have HZ := Lib.hid hz
  have HCV := Lib.hid hcv
  have HI := Lib.hid hinv
  clear h h1 hb1 hz ho1 hc hl hw hcv hinv
  go_enter Try.func52, Try.ntmps52
  go_wp2_with fail
  refine HC.out.mono ?_
  rintro e w2 ⟨rfl, hb2⟩
  have H2 := Lib.hid (H1.out.below hb2)
  have HO2 := Lib.hid (only_dock HO1.out (Only.of_below hb2))
  have HZ2 := Lib.hid ((hb2.block _ (block_lt HZ.out)).trans HZ.out)
  clear hb2 H1 HO1 HZ HC
  obtain ⟨Z, hZ⟩ : ∃ Z, Z = w.heap.size := ⟨_, rfl⟩
  rw [← hZ] at HZ2
  rw [← hZ]
  clear hZ
  have c7 : w2.cell? ⟨D, 7, none⟩ = some (.slice d.A s.tail d.cap) := H2.out.cell 7
  have c9 : w2.cell? ⟨D, 9, none⟩ = some (.int .i64 s.low) := H2.out.cell 9
  obtain ⟨g, hA, _, hcap, hgk, hcg, hfg⟩ := H2.out.block hlt
  rw [hA] at c7
  obtain ⟨kd, nn⟩ := c
  have y2 : w2.cell? ⟨g, s.low * 20 + 2, none⟩ = some (.int .i64 kd) := by
    have e : (s.cmdV s.low).kind = kd := by rw [HCV.out]
    rw [← e]
    exact hcg 2 (by decide)
  have HA := Lib.hid hA
  clear hA hcg hfg hgk
  have HD : Hid (∀ n, RefM (w2.drewN n) lo D (docM d s) ∧ Only (DocK lo w) w (w2.drewN n) ∧ (w2.drewN n).heap[Z]? = some (.cells #[.int .i64 0, .int .i64 an, .slice none 0 0] 58 (0, 0))) := Lib.hid fun n => ⟨H2.out.mem.below (bl_drewN (Below.refl _ _) n), HO2.out.drewN n, HZ2.out⟩
  have HH2 := Lib.hid HH.out
  by_cases hkd : kd = 1
  · subst hkd
    go_wp2_with fail
    go_quiet (fail)
    obtain ⟨hm3, ho3, hz3⟩ := HD.out nq
    clear c7 c9 y2 HD H2 HO2 HZ2
    generalize w2.drewN nq = w3 at *
    have c9 : w3.cell? ⟨D, 9, none⟩ = some (.int .i64 s.low) := cell_of_blk hm3.hD 9
    have f9 := free_of_blk hm3.hD 9
    have HM := Lib.hid (hm3.headset 9 (.int .i64 (s.low + 1)))
    have HO : Hid (Only (DocK lo w) w (w3.setCell ⟨D, 9, none⟩ (.int .i64 (s.low + 1)))) := Lib.hid (only_dock ho3 ((Only.refl _ _).setCell _ _ (.inl hm3.kD)))
    clear hm3 ho3 hz3
    go_wp2_with fail
    go_ret
    refine ⟨rfl, ⟨_, HH.out.lowered 1 an HI.out hlt HO.out _ HM.out rfl ⟨rfl, rfl, rfl, rfl, rfl, rfl⟩ rfl rfl d.aN (fun p z hp => ?_) (.inr (ans_pub s an)) (fun p hp => ?_)⟩, HO.out⟩
    · rw [ans_pub] at hp
      exact HH.out.ans p z hp
    · show cellOf d s p = _
      unfold cellOf
      rw [ans_pub]
      rfl
  · have d1 : (kd != 1) = true := by simpa using hkd
    have HKD := Lib.hid hkd
    clear hkd
    go_wp2_with fail
    go_quiet (fail)
    obtain ⟨hm3, ho3, hz3⟩ := HD.out nq
    clear c7 c9 y2 HD H2 HO2 HZ2
    generalize w2.drewN nq = w3 at *
    have HM3 := Lib.hid hm3
    have HO3 := Lib.hid ho3
    have HZ3 := Lib.hid hz3
    have c7 : w3.cell? ⟨D, 7, none⟩ = some (.slice (some ⟨g, 0, none⟩) s.tail d.cap) := by rw [← HA.out]; exact cell_of_blk hm3.hD 7
    have c9 : w3.cell? ⟨D, 9, none⟩ = some (.int .i64 s.low) := cell_of_blk hm3.hD 9
    clear hm3 ho3 hz3
    go_wp2_with fail
    go_still_tail 10, (by kernel_rfl)
    change wpList _ _ _ _ _ w3.drew
    have hm4 := HM3.out.below (bl_drew (Below.refl _ _))
    have ho4 := HO3.out.drew
    have hz4 : w3.drew.heap[Z]? = some (.cells #[.int .i64 0, .int .i64 an, .slice none 0 0] 58 (0, 0)) := HZ3.out
    clear c7 c9 HM3 HO3 HZ3
    generalize w3.drew = w4 at *
    obtain ⟨g', cs, hA', hglo, _, hgc, hcell, hfr⟩ := hm4.block (by show 0 < s.tail; omega)
    obtain rfl : g = g' := by
      have e : d.A = some ⟨g', 0, none⟩ := hA'
      rw [HA.out] at e
      injection e with e
      injection e
    have x1 : w4.cell? ⟨g, s.low * 20 + 1, none⟩ = some (.bool (s.ans s.low).isSome) := hcell s.low 1 hlt (by decide)
    have f1 := hfr (s.low * 20 + 1)
    have hm5 : RefM (w4.setCell ⟨g, s.low * 20 + 1, none⟩ (.bool true)) lo D { docM d s with cf := upd (cellOf d s) s.low (putL (cellOf d s s.low) 1 [.bool true]) } := hm4.cellput (g := g) (p := s.low) (o := 1) HA.out hlt [.bool true] (by decide)
    have ho5 : Only (DocK lo w) w (w4.setCell ⟨g, s.low * 20 + 1, none⟩ (.bool true)) := only_dock ho4 ((Only.refl _ _).setCell _ _ (.inl ⟨hglo, _, _, _, hgc, .inr (.inl rfl)⟩))
    have hgz : Z ≠ g := blk_ne hz4 hgc (by decide)
    have hz5 := setCell_other hz4 (i := s.low * 20 + 1) hgz (.bool true)
    have HM5 := Lib.hid hm5
    have HO5 := Lib.hid ho5
    have HZ5 := Lib.hid hz5
    clear hm5 ho5 hz5 hm4 ho4 hz4 hcell hfr hgc hglo hA'
    go_wp2
    generalize w4.setCell ⟨g, s.low * 20 + 1, none⟩ (.bool true) = w5 at *
    clear x1 f1
    have c7 : w5.cell? ⟨D, 7, none⟩ = some (.slice (some ⟨g, 0, none⟩) s.tail d.cap) := by rw [← HA.out]; exact cell_of_blk HM5.out.hD 7
    have c9 : w5.cell? ⟨D, 9, none⟩ = some (.int .i64 s.low) := cell_of_blk HM5.out.hD 9
    have a0 : w5.cell? ⟨Z, 0, none⟩ = some (.int .i64 0) := cell_of_blk (cs := [.int .i64 0, .int .i64 an, .slice none 0 0]) HZ5.out 0
    have a1 : w5.cell? ⟨Z, 1, none⟩ = some (.int .i64 an) := cell_of_blk (cs := [.int .i64 0, .int .i64 an, .slice none 0 0]) HZ5.out 1
    have a2 : w5.cell? ⟨Z, 2, none⟩ = some (.slice none 0 0) := cell_of_blk (cs := [.int .i64 0, .int .i64 an, .slice none 0 0]) HZ5.out 2
    go_still_tail 11, (by kernel_rfl)
    change wpList _ _ _ _ _ w5.drew
    have hm6 := HM5.out.below (bl_drew (Below.refl _ _))
    have ho6 := HO5.out.drew
    clear c7 c9 a0 a1 a2 HM5 HO5 HZ5
    generalize w5.drew = w6 at *
    obtain ⟨g', cs, hA', hglo, _, hgc, hcell, hfr⟩ := hm6.block (by show 0 < s.tail; omega)
    obtain rfl : g = g' := by
      have e : d.A = some ⟨g', 0, none⟩ := hA'
      rw [HA.out] at e
      injection e with e
      injection e
    have hl : ∀ j, j < 20 → ∃ u, w6.cell? ⟨g, s.low * 20 + j, none⟩ = some u := fun j hj => by
      rw [hcell s.low j hlt hj]
      exact ⟨_, List.getElem?_eq_getElem (by rw [hm6.len.1]; exact hj)⟩
    obtain ⟨u0, b0⟩ := hl 17 (by decide)
    obtain ⟨u1, b1⟩ := hl 18 (by decide)
    obtain ⟨u2, b2⟩ := hl 19 (by decide)
    have f0 := hfr (s.low * 20 + 17)
    have f1 := hfr (s.low * 20 + 18)
    have f2 := hfr (s.low * 20 + 19)
    have hgD : D ≠ g := blk_ne hm6.hD hgc (by decide)
    have hm7 : RefM (((w6.setCell ⟨g, s.low * 20 + 17, none⟩ (.int .i64 0)).setCell ⟨g, s.low * 20 + 17 + 1, none⟩ (.int .i64 an)).setCell ⟨g, s.low * 20 + 17 + 2, none⟩ (.slice none 0 0)) lo D { docM d s with cf := upd (upd (cellOf d s) s.low (putL (cellOf d s s.low) 1 [.bool true])) s.low (putL (upd (cellOf d s) s.low (putL (cellOf d s s.low) 1 [.bool true]) s.low) 17 [.int .i64 0, .int .i64 an, .slice none 0 0]) } := hm6.cellput (g := g) (p := s.low) (o := 17) HA.out hlt [.int .i64 0, .int .i64 an, .slice none 0 0] (show 17 + 3 ≤ 20 by decide)
    have ho7 : Only (DocK lo w) w (((w6.setCell ⟨g, s.low * 20 + 17, none⟩ (.int .i64 0)).setCell ⟨g, s.low * 20 + 17 + 1, none⟩ (.int .i64 an)).setCell ⟨g, s.low * 20 + 17 + 2, none⟩ (.slice none 0 0)) := only_dock ho6 ((((Only.refl _ _).setCell _ _ (.inl ⟨hglo, _, _, _, hgc, .inr (.inl rfl)⟩)).setCell _ _ (.inl ⟨hglo, _, _, _, hgc, .inr (.inl rfl)⟩)).setCell _ _ (.inl ⟨hglo, _, _, _, hgc, .inr (.inl rfl)⟩))
    have HM7 := Lib.hid hm7
    have HO7 := Lib.hid ho7
    have c9 : w6.cell? ⟨D, 9, none⟩ = some (.int .i64 s.low) := cell_of_blk hm6.hD 9
    have f9 := free_of_blk hm6.hD 9
    clear hm7 ho7 hm6 ho6 hl hcell hfr hgc hglo hA'
    go_wp2
    go_ret
    have hm8 := HM7.out.headset 9 (.int .i64 (s.low + 1))
    have ho8 := only_dock HO7.out ((Only.refl _ _).setCell ⟨D, 9, none⟩ (.int .i64 (s.low + 1)) (.inl HM7.out.kD))
    refine ⟨rfl, ⟨_, HH.out.lowered kd an HI.out hlt ho8 _ hm8 rfl ⟨rfl, rfl, rfl, rfl, rfl, rfl⟩ rfl rfl (upd d.aN s.low an) (fun p z hp => ?_) (.inl HKD.out) (fun p hp => ?_)⟩, ho8⟩
    · rw [ans_at_low s an HKD.out] at hp
      by_cases e : p = s.low
      · rw [if_pos e] at hp
        injection hp with hp
        rw [e, upd_same, hp]
      · rw [if_neg e] at hp
        rw [upd_other _ _ e]
        exact HH.out.ans p z hp
    · show upd (upd (cellOf d s) s.low (putL (cellOf d s s.low) 1 [.bool true])) s.low (putL (upd (cellOf d s) s.low (putL (cellOf d s s.low) 1 [.bool true]) s.low) 17 [.int .i64 0, .int .i64 an, .slice none 0 0]) p = cellOf { d with aN := upd d.aN s.low an } (s.replied kd an) p
      have e0 := ans_at_low s an HKD.out p
      by_cases e : p = s.low
      · subst e
        rw [if_pos rfl] at e0
        rw [upd_same, upd_same]
        unfold cellOf
        rw [e0]
        simp only [upd_same]
        rfl
      · rw [if_neg e] at e0
        rw [upd_other _ _ e, upd_other _ _ e]
        unfold cellOf
        rw [e0]
        simp only [upd_other _ _ e]
        rfl
end
end Go.Proofs.Ytibbnikfecilhaa
