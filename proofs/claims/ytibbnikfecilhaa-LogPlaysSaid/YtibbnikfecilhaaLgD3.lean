/- Chapter 19: the document's Leave, Post. (Printed by lggen.py.) -/
import Derived.Test.YtibbnikfecilhaaLgD2
import Derived.StillTailTactics
namespace Go.Proofs.Ytibbnikfecilhaa
open Go.RowKit
set_option linter.unusedVariables false
set_option linter.unusedSimpArgs false

section
variable {w : World} {lo D C : Nat} {d : DocB} {s : LogS}
theorem docM_len (d : DocB) (s : LogS) : (∀ p, ((docM d s).cf p).length = 20) ∧ (∀ i, ((docM d s).wf i).length = 2) ∧ ∀ p i, ((docM d s).of p i).length = 4 := ⟨fun _ => rfl, fun _ => rfl, fun _ _ => rfl⟩
theorem LostIn.keptK {w w' : World} {C : Nat} {x : OutV × Int} (h : LostIn w C x) (ho : Only (DocK lo w) w w') : LostIn w' C x := by
  rcases h with h | ⟨k, h1, h2, h3⟩
  · exact .inl h
  · refine .inr ⟨k, h1, h2, ho.block h3 ?_⟩
    rintro ⟨_, cs, t, fr, h4, h5⟩
    have e := h3.symm.trans h4
    injection e with e
    injection e with _ e _
    subst e
    rcases h5 with h5 | h5 | h5 | h5 <;> cases h5
theorem only_dock {w w2 w3 : World} (h1 : Only (DocK lo w) w w2) (h2 : Only (DocK lo w2) w2 w3) : Only (DocK lo w) w w3 := by
  refine ⟨h2.os.trans h1.os, h2.tape.trans h1.tape, h2.output.trans h1.output, Nat.le_trans h1.size h2.size, fun k hk hn => ?_⟩
  have e := h1.keep k hk hn
  refine (h2.keep k (Nat.lt_of_lt_of_le hk h1.size) ?_).trans e
  rintro ⟨gl, cs, t, fr, g1, g2⟩
  exact hn ⟨gl, cs, t, fr, e.symm.trans g1, g2⟩
theorem RefAt.leftAt (h : RefAt w lo D C d s) {k : Nat} (hk : k < s.cfg.sh) : RefAt (w.setCell ⟨d.wb, k * 2 + 1, none⟩ (.bool true)) lo D C { d with left := upd d.left k true } (s.left k) := by
  have hon : Only (DocK lo w) w (w.setCell ⟨d.wb, k * 2 + 1, none⟩ (.bool true)) := (Only.refl _ _).setCell _ _ (.inl h.mem.kW)
  refine ⟨?_, fun p i hp hi => (h.lost p i hp hi).keptK hon, fun i hi => ?_, h.at0, h.ans, h.ansIn, h.inv.left k, h.small⟩
  · refine (h.mem.wkput (i := k) (o := 1) hk [.bool true] (by decide)).congr rfl ⟨rfl, rfl, rfl, rfl, rfl, rfl⟩ (fun p hp => rfl) (fun i hi => ?_) (fun p i hp hi => rfl) (docM_len _ _)
    show upd (wkOf d) k (putL (wkOf d k) 1 [.bool true]) i = wkOf { d with left := upd d.left k true } i
    by_cases e : i = k
    · subst e
      rw [upd_same]
      show [Value.int .i64 (d.at_ i), .bool true] = [Value.int .i64 (d.at_ i), .bool (upd d.left i true i)]
      rw [upd_same]
    · rw [upd_other _ _ e]
      show [Value.int .i64 (d.at_ i), .bool (d.left i)] = [Value.int .i64 (d.at_ i), .bool (upd d.left k true i)]
      rw [upd_other _ _ e]
  · show upd s.cur (k : Int).toNat (-1) i = if upd d.left k true i = true then -1 else d.at_ i
    rw [Int.toNat_natCast]
    by_cases e : i = k
    · subst e
      rw [upd_same, upd_same, if_pos rfl]
    · rw [upd_other _ _ e, upd_other _ _ e]
      exact h.cur i hi
theorem refLeave (h : RefAt w lo D C d s) (i : Int) (r : Bool) (hr : s.leaves i = r) (s' : LogS) (hs' : (if r = true then s.left i else s) = s') :
    Calls Try.prog 51 #[.pointer (some ⟨D, 0, none⟩), .int .i64 i] w fun e w' => e = .returned (.bool r) ∧ (∃ d', RefAt w' lo D C d' s') ∧ Only (DocK lo w) w w' := by
  have HI := Lib.hid (refIs h i r hr)
  have c10 : w.cell? ⟨D, 10, none⟩ = some (.slice (some ⟨d.wb, 0, none⟩) s.cfg.sh s.cfg.sh) := h.cell 10
  have HH := Lib.hid h
  cases r
  · simp only [Bool.false_eq_true, if_false] at hs'
    subst hs'
    clear h hr
    go_enter Try.func51, Try.ntmps51
    go_wp2_with fail
    refine HI.out.mono ?_
    rintro e w' ⟨rfl, rfl⟩
    go_wp2_with fail
    go_ret
    exact ⟨rfl, ⟨_, HH.out⟩, Only.refl _ _⟩
  · simp only [if_true] at hs'
    subst hs'
    have hg : s.cursor i ≠ -1 := of_decide_eq_true hr
    obtain ⟨k, rfl, hk, hc⟩ := cursor_in hg
    obtain ⟨x0, x1⟩ := h.wk hk
    have fr := free_of_blk h.mem.wks (k * 2 + 1)
    change w.frozen? ⟨d.wb, k * 2 + 1, none⟩ = false at fr
    have H2 := Lib.hid (h.leftAt hk)
    have HO : Hid (Only (DocK lo w) w (w.setCell ⟨d.wb, k * 2 + 1, none⟩ (.bool true))) := Lib.hid ((Only.refl _ _).setCell _ _ (.inl h.mem.kW))
    clear h hr hg hc HH
    go_enter Try.func51, Try.ntmps51
    go_wp2_with fail
    refine HI.out.mono ?_
    rintro e w' ⟨rfl, rfl⟩
    go_wp2_with fail
    go_ret
    exact ⟨rfl, ⟨_, H2.out⟩, HO.out⟩
/-- What is told, laid down; the worker goes on. -/
theorem RefAt.postAt (h : RefAt w lo D C d s) {k p : Nat} (hk : k < s.cfg.sh) (hp : p < s.tail) (hcur : d.at_ k = p) (hleft : d.left k = false) (x x' : OutV) (z : Int) (hx : LostIn w C (x, z)) :
    RefAt ((puts w (d.ob p) (k * 4) x.cells).setCell ⟨d.wb, k * 2, none⟩ (.int .i64 (p + 1))) lo D C { d with ov := fun q => if q = p then upd (d.ov p) k x else d.ov q, at_ := upd d.at_ k (p + 1) } (s.posted k (x', z)) ∧ Only (DocK lo w) w ((puts w (d.ob p) (k * 4) x.cells).setCell ⟨d.wb, k * 2, none⟩ (.int .i64 (p + 1))) := by
  have hck : s.cur k = p := by rw [h.cur k hk, hleft, if_neg Bool.false_ne_true, hcur]
  have hon : Only (DocK lo w) w ((puts w (d.ob p) (k * 4) x.cells).setCell ⟨d.wb, k * 2, none⟩ (.int .i64 (p + 1))) := (puts_only (h.mem.kO hp) _ _ _ _ (Only.refl _ _)).setCell _ _ (.inl h.mem.kW)
  refine ⟨⟨?_, fun q i hq hi => ?_, fun i hi => ?_, fun i => ?_, h.ans, h.ansIn, h.inv.posted hk hck hp (x', z), h.small⟩, hon⟩
  · have h1 := h.mem.output (p := p) (i := k) (o := 0) hp hk x.cells (by rw [OutV.len]; decide)
    rw [Nat.add_zero] at h1
    have h2 := h1.wkput (i := k) (o := 0) hk [.int .i64 (p + 1)] (show 0 + 1 ≤ 2 by omega)
    rw [Nat.add_zero] at h2
    refine h2.congr rfl ⟨rfl, rfl, rfl, rfl, rfl, rfl⟩ (fun q hq => rfl) (fun i hi => ?_) (fun q i hq hi => ?_) (docM_len _ _)
    · show upd (wkOf d) k (putL (wkOf d k) 0 [.int .i64 (p + 1)]) i = [Value.int .i64 (upd d.at_ k ((p : Int) + 1) i), .bool (d.left i)]
      by_cases e : i = k
      · subst e
        rw [upd_same, upd_same]
        rfl
      · rw [upd_other _ _ e, upd_other _ _ e]
        rfl
    · show (if q = p then upd (outOf (d.ov p)) k (putL (outOf (d.ov p) k) 0 x.cells) else outOf (d.ov q)) i = OutV.cells ((if q = p then upd (d.ov p) k x else d.ov q) i)
      by_cases e : q = p
      · rw [if_pos e, if_pos e]
        by_cases e2 : i = k
        · subst e2
          rw [upd_same, upd_same]
          exact putL_all (by rw [outOf_len, OutV.len])
        · rw [upd_other _ _ e2, upd_other _ _ e2]
          rfl
      · rw [if_neg e, if_neg e]
        rfl
  · show LostIn _ C ((if q = p then upd (d.ov p) k x else d.ov q) i, ((upd s.out (k : Int).toNat (upd (s.out (k : Int).toNat) (s.cur (k : Int).toNat).toNat (some (x', z))) i q).map (·.2)).getD (-1))
    rw [Int.toNat_natCast, hck, Int.toNat_natCast]
    by_cases e : i = k
    · subst e
      rw [upd_same]
      by_cases e2 : q = p
      · subst e2
        rw [if_pos rfl, upd_same, upd_same]
        exact hx.keptK hon
      · rw [if_neg e2, upd_other _ _ e2]
        exact (h.lost q i hq hi).keptK hon
    · rw [upd_other _ _ e]
      have hl := (h.lost q i hq hi).keptK hon
      by_cases e2 : q = p
      · subst e2
        rw [if_pos rfl, upd_other _ _ e]
        exact hl
      · rw [if_neg e2]
        exact hl
  · show upd s.cur (k : Int).toNat (s.cur (k : Int).toNat + 1) i = if d.left i = true then -1 else upd d.at_ k ((p : Int) + 1) i
    rw [Int.toNat_natCast]
    by_cases e : i = k
    · subst e
      rw [upd_same, upd_same, hck, hleft, if_neg Bool.false_ne_true]
    · rw [upd_other _ _ e, upd_other _ _ e]
      exact h.cur i hi
  · show 0 ≤ upd d.at_ k ((p : Int) + 1) i
    unfold upd
    split
    · omega
    · exact h.at0 i
set_option maxHeartbeats 4000000 in
set_option maxRecDepth 20000 in
theorem refPost (h : RefAt w lo D C d s) (i : Int) (x : OutV) (z : Int) (hx : LostIn w C (x, z)) (r : Bool) (hr : s.posts i = r) (x' : OutV) (s' : LogS) (hs' : (if r = true then s.posted i (x', z) else s) = s') :
    Calls Try.prog 50 #[.pointer (some ⟨D, 0, none⟩), .int .i64 i, .agg x.cells.toArray] w fun e w' => e = .returned (.bool r) ∧ (∃ d', RefAt w' lo D C d' s') ∧ Only (DocK lo w) w w' := by
  obtain ⟨la, ln, lc⟩ := x
  have hb := bl_alloc (Below.refl _ w) (.cells #[.slice none 0 0, .slice la ln lc, .slice none 0 0, .slice none 0 0] 47)
  have hz := alloc_new w (.cells #[.slice none 0 0, .slice la ln lc, .slice none 0 0, .slice none 0 0] 47)
  have h1 := h.below hb
  have ho1 : Only (DocK lo w) w (w.alloc (.cells #[.slice none 0 0, .slice la ln lc, .slice none 0 0, .slice none 0 0] 47)) := Only.of_below hb
  have hdk : ∀ k, k < w.heap.size → DocK lo (w.alloc (.cells #[.slice none 0 0, .slice la ln lc, .slice none 0 0, .slice none 0 0] 47)) k → DocK lo w k := fun k hk ⟨gl, cs, t, fr, g1, g2⟩ => ⟨gl, cs, t, fr, (hb.block k hk).symm.trans g1, g2⟩
  change Calls Try.prog 50 #[.pointer (some ⟨D, 0, none⟩), .int .i64 i, .agg #[.slice none 0 0, .slice la ln lc, .slice none 0 0, .slice none 0 0]] w _
  have hx1 : LostIn (w.alloc (.cells #[.slice none 0 0, .slice la ln lc, .slice none 0 0, .slice none 0 0] 47)) C (⟨la, ln, lc⟩, z) := hx.keptK ho1
  unfold LogS.posts at hr
  by_cases g : s.cursor i = -1
  · have HI := Lib.hid (refIs h1 i false (by rw [g]; rfl))
    rw [decide_eq_false (fun n => n g), Bool.false_and] at hr
    subst hr
    simp only [Bool.false_eq_true, if_false] at hs'
    subst hs'
    have HH := Lib.hid h1
    have HO := Lib.hid ho1
    clear h h1 hb hz hx hx1 ho1 hdk g
    go_enter Try.func50, Try.ntmps50
    go_wp2_with fail
    refine HI.out.mono ?_
    rintro e w' ⟨rfl, rfl⟩
    go_wp2_with fail
    go_ret
    exact ⟨rfl, ⟨_, HH.out⟩, HO.out⟩
  · have HI := Lib.hid (refIs h1 i true (decide_eq_true g))
    rw [decide_eq_true g, Bool.true_and] at hr
    obtain ⟨k, rfl, hk, hc⟩ := cursor_in g
    obtain ⟨x0, x1⟩ := h1.wk hk
    have c10 : (w.alloc (.cells #[.slice none 0 0, .slice la ln lc, .slice none 0 0, .slice none 0 0] 47)).cell? ⟨D, 10, none⟩ = some (.slice (some ⟨d.wb, 0, none⟩) s.cfg.sh s.cfg.sh) := h1.cell 10
    have hlf : d.left k = false := by
      have := ref_cursor h hk
      cases hl : d.left k
      · rfl
      · rw [hl, if_pos rfl] at this
        exact absurd this g
    have hca : s.cursor k = d.at_ k := by rw [ref_cursor h hk, hlf, if_neg Bool.false_ne_true]
    obtain ⟨p, hp⟩ : ∃ p : Nat, d.at_ k = p := ⟨(d.at_ k).toNat, by have := h.at0 k; omega⟩
    rw [hca, hp] at hr
    rw [hp] at x0
    have HL := Lib.hid (refLies h1 p r hr)
    cases r
    · simp only [Bool.false_eq_true, if_false] at hs'
      subst hs'
      have HH := Lib.hid h1
      have HO := Lib.hid ho1
      clear h h1 hb hz hx hx1 ho1 hdk g hc hca hp hr x1 hlf
      go_enter Try.func50, Try.ntmps50
      go_wp2_with fail
      refine HI.out.mono ?_
      rintro e w' ⟨rfl, rfl⟩
      go_wp2_with fail
      refine HL.out.mono ?_
      rintro e w' ⟨rfl, rfl⟩
      go_wp2_with fail
      go_ret
      exact ⟨rfl, ⟨_, HH.out⟩, HO.out⟩
    · simp only [if_true] at hs'
      subst hs'
      obtain ⟨q1, q2⟩ := look_some h.inv hr
      obtain ⟨g0, hA, _, hcap, _, hcg, _⟩ := h1.block q2
      have c7 : (w.alloc (.cells #[.slice none 0 0, .slice la ln lc, .slice none 0 0, .slice none 0 0] 47)).cell? ⟨D, 7, none⟩ = some (.slice d.A s.tail d.cap) := h1.cell 7
      rw [hA] at c7
      have y16 : (w.alloc (.cells #[.slice none 0 0, .slice la ln lc, .slice none 0 0, .slice none 0 0] 47)).cell? ⟨g0, p * 20 + 16, none⟩ = some (.slice (some ⟨d.ob p, 0, none⟩) s.cfg.sh s.cfg.sh) := hcg 16 (by decide)
      have v0 : (w.alloc (.cells #[.slice none 0 0, .slice la ln lc, .slice none 0 0, .slice none 0 0] 47)).cell? ⟨w.heap.size, 0, none⟩ = some (.slice none 0 0) := cell_of_blk (cs := [.slice none 0 0, .slice la ln lc, .slice none 0 0, .slice none 0 0]) hz 0
      have v1 : (w.alloc (.cells #[.slice none 0 0, .slice la ln lc, .slice none 0 0, .slice none 0 0] 47)).cell? ⟨w.heap.size, 1, none⟩ = some (.slice la ln lc) := cell_of_blk (cs := [.slice none 0 0, .slice la ln lc, .slice none 0 0, .slice none 0 0]) hz 1
      have v2 : (w.alloc (.cells #[.slice none 0 0, .slice la ln lc, .slice none 0 0, .slice none 0 0] 47)).cell? ⟨w.heap.size, 2, none⟩ = some (.slice none 0 0) := cell_of_blk (cs := [.slice none 0 0, .slice la ln lc, .slice none 0 0, .slice none 0 0]) hz 2
      have v3 : (w.alloc (.cells #[.slice none 0 0, .slice la ln lc, .slice none 0 0, .slice none 0 0] 47)).cell? ⟨w.heap.size, 3, none⟩ = some (.slice none 0 0) := cell_of_blk (cs := [.slice none 0 0, .slice la ln lc, .slice none 0 0, .slice none 0 0]) hz 3
      have H1 := Lib.hid h1
      have HO1 := Lib.hid ho1
      have HDK := Lib.hid hdk
      have HX1 := Lib.hid hx1
      have HP := Lib.hid hp
      have HLF := Lib.hid hlf
      have hbnd := h.small
      clear h h1 hb hz hx hx1 ho1 hdk g hc hca hp hr x1 hlf hcg hA
      go_enter Try.func50, Try.ntmps50
      go_wp2_with fail
      obtain ⟨Z, hZ⟩ : ∃ Z, Z = w.heap.size := ⟨_, rfl⟩
      rw [← hZ] at v0 v1 v2 v3
      rw [← hZ]
      have HZ := Lib.hid hZ
      clear hZ
      generalize w.alloc (.cells #[.slice none 0 0, .slice la ln lc, .slice none 0 0, .slice none 0 0] 47) = w1 at *
      refine HI.out.mono ?_
      rintro e w' ⟨rfl, rfl⟩
      go_wp2_with fail
      refine HL.out.mono ?_
      rintro e w' ⟨rfl, rfl⟩
      go_wp2_with fail
      have hkz : (k : Int).toNat = k := by omega
      go_still_tail 11, (by kernel_rfl)
      change wpList _ _ _ _ _ w'.drew
      have H2 := Lib.hid (H1.out.below (bl_drew (Below.refl _ _)))
      have HX2 : Hid (LostIn w'.drew C (⟨la, ln, lc⟩, z)) := Lib.hid (HX1.out.keptK (lo := lo) (Only.of_below (bl_drew (Below.refl _ _))))
      have HO2 := Lib.hid (HO1.out.drew)
      have hDK2 : ∀ k, k < w.heap.size → DocK lo w'.drew k → DocK lo w k := fun k hk h => HDK.out k hk h
      have HDK2 := Lib.hid hDK2
      clear hDK2 H1 HX1 HO1 HDK HI HL c7 y16 v0 v1 v2 v3 c10 x0
      generalize w'.drew = w2 at *
      have c10 : w2.cell? ⟨D, 10, none⟩ = some (.slice (some ⟨d.wb, 0, none⟩) s.cfg.sh s.cfg.sh) := H2.out.cell 10
      obtain ⟨x0, x1⟩ := H2.out.wk hk
      rw [HP.out] at x0
      have hob := H2.out.mem.outs p q2
      have u0 : w2.cell? ⟨d.ob p, k * 4, none⟩ = some (.slice none 0 0) := H2.out.mem.out q2 hk (j := 0) (by decide)
      have u1 : w2.cell? ⟨d.ob p, k * 4 + 1, none⟩ = some (.slice (d.ov p k).a (d.ov p k).n (d.ov p k).c) := H2.out.mem.out q2 hk (j := 1) (by decide)
      have u2 : w2.cell? ⟨d.ob p, k * 4 + 2, none⟩ = some (.slice none 0 0) := H2.out.mem.out q2 hk (j := 2) (by decide)
      have u3 : w2.cell? ⟨d.ob p, k * 4 + 3, none⟩ = some (.slice none 0 0) := H2.out.mem.out q2 hk (j := 3) (by decide)
      have f0 : w2.frozen? ⟨d.ob p, k * 4, none⟩ = false := free_of_blk hob _
      have f1 : w2.frozen? ⟨d.ob p, k * 4 + 1, none⟩ = false := free_of_blk hob _
      have f2 : w2.frozen? ⟨d.ob p, k * 4 + 2, none⟩ = false := free_of_blk hob _
      have f3 : w2.frozen? ⟨d.ob p, k * 4 + 3, none⟩ = false := free_of_blk hob _
      have fw : w2.frozen? ⟨d.wb, k * 2, none⟩ = false := free_of_blk H2.out.mem.wks _
      have ne1 : D ≠ d.ob p := blk_ne H2.out.mem.hD hob (by decide)
      have ne2 : d.wb ≠ d.ob p := blk_ne H2.out.mem.wks hob (by decide)
      have HF := Lib.hid (H2.out.postAt hk q2 HP.out HLF.out ⟨la, ln, lc⟩ x' z HX2.out)
      clear hob x1
      go_wp2
      go_ret
      exact ⟨rfl, ⟨_, HF.out.1⟩, only_dock HO2.out HF.out.2⟩
end
end Go.Proofs.Ytibbnikfecilhaa
