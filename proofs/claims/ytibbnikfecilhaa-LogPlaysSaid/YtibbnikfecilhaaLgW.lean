/- Chapter 19: the chapter's example. -/
import Derived.Test.YtibbnikfecilhaaLgO
namespace Go.Proofs.Ytibbnikfecilhaa
open Go.RowKit
set_option linter.unusedVariables false
set_option linter.unusedSimpArgs false

def c9 : CfgV := ⟨1, 1, 1, 1, 1, 1, 9⟩
def aw1 : LogS := (LogS.init c9).taken false
def aw2 : LogS := aw1.filled 0 ⟨4, 0⟩
def aw3 (k : Nat) : LogS := aw2.posted 0 (⟨some ⟨k, 0, none⟩, 1, 1⟩, 5)
def aw4 (k : Nat) : LogS := (aw3 k).replied 4 3
theorem own_lo {w : World} {lo L : Nat} {b : LogB} {s : LogS} (h : LogAt w lo L b s) : ∀ k, Own L b s.cfg.sh k → lo ≤ k := by
  obtain ⟨h1, h2, h3, h4, h5, h6⟩ := h.lo
  rintro k (rfl | rfl | rfl | rfl | rfl | ⟨i, hi, rfl | rfl⟩)
  · exact h1
  · exact h2
  · exact h3
  · exact h4
  · exact h5
  · exact (h6 i hi).1
  · exact (h6 i hi).2
theorem own_in {w : World} {lo L : Nat} {b : LogB} {s : LogS} (h : LogAt w lo L b s) : ∀ k, Own L b s.cfg.sh k → k < w.heap.size := by
  rintro k (rfl | rfl | rfl | rfl | rfl | ⟨i, hi, rfl | rfl⟩)
  · exact block_lt h.hL
  · exact block_lt h.ring.hR
  · exact block_lt h.ring.hB
  · exact block_lt h.curs
  · obtain ⟨an, D, _, ⟨es, clock, h1, _⟩, _⟩ := h.ans.ex
    exact block_lt h1
  · exact block_lt (h.orng i hi).hR
  · exact block_lt (h.orng i hi).hB
theorem aw_waits {s : LogS} {kd : Int} (h : s.cfg.sh = 1) (r : Bool) (hr : waitsB s.low kd (s.cur 0) = r) : anyWaits s kd = r := by
  unfold anyWaits
  cases r
  · refine decide_eq_false ?_
    rintro ⟨i, hi, hw⟩
    obtain rfl : i = 0 := by omega
    rw [hr] at hw
    cases hw
  · exact decide_eq_true ⟨0, by omega, hr⟩
theorem aw_c2 : aw2.collect = none := by
  unfold LogS.collect
  rw [show aw2.look aw2.low = some ⟨4, 0⟩ by rfl]
  simp only
  rw [aw_waits rfl true (by decide)]
  rfl
theorem aw_c3 (k : Nat) : (aw3 k).collect = some [(⟨some ⟨k, 0, none⟩, 1, 1⟩, 5)] := by
  unfold LogS.collect
  rw [show (aw3 k).look (aw3 k).low = some ⟨4, 0⟩ by rfl]
  simp only
  rw [aw_waits rfl false (by rfl)]
  rfl
theorem aw_l3 (k : Nat) : (aw3 k).look (aw3 k).low = some ⟨4, 0⟩ := rfl
set_option maxHeartbeats 4000000 in
/-- The chapter's example comes out. -/
theorem awake19 (w : World) : Calls Try.prog 9 #[] w fun e w' => e = .returned (.bool true) ∧ Below w.heap.size w w' := by
  have HN := Lib.hid (newLog (w := w) c9 (by decide))
  go_enter Try.func9, Try.ntmps9
  go_wp2_with fail
  refine HN.out.mono ?_
  rintro e w1 ⟨L, b, rfl, h1, hb1⟩
  have H1 := Lib.hid h1
  have HB1 := Lib.hid hb1
  clear h1 hb1
  go_wp2_with fail
  refine (logTake_to H1.out 0 false true (by decide) aw1 rfl (by decide)).mono ?_
  rintro e w2 ⟨rfl, h2, o2⟩
  have H2 := Lib.hid h2
  have HB2 := Lib.hid (bl_only HB1.out o2 (fun i hi => by subst hi; exact H1.out.lo.1))
  clear h2 o2
  go_wp2_with fail
  refine (logTake_to H2.out 1 false false (by decide) aw1 rfl (by decide)).mono ?_
  rintro e w3 ⟨rfl, h3, o3⟩
  have H3 := Lib.hid h3
  have HB3 := Lib.hid (bl_only HB2.out o3 (fun i hi => by subst hi; exact H1.out.lo.1))
  clear h3 o3
  go_wp2_with fail
  refine (logFill H3.out 0 ⟨4, 0⟩ true (by decide) aw2 rfl (by decide)).mono ?_
  rintro e w4 ⟨rfl, h4, o4⟩
  have H4 := Lib.hid h4
  have HB4 := Lib.hid (bl_only HB3.out o4 (fun i hi => by subst hi; exact H1.out.lo.2.2.1))
  clear h4 o4
  go_wp2_with fail
  refine (logCollect H4.out none aw_c2).mono ?_
  rintro e w5 ⟨rfl, hb5⟩
  have H5 := Lib.hid (H4.out.below hb5)
  have HB5 := Lib.hid (bl_then HB4.out hb5)
  clear hb5
  go_wp2_with fail
  refine (out_any 5 _).mono ?_
  rintro e w6 ⟨k, rfl, hk, hblk, hb6⟩
  have H6 := Lib.hid (H5.out.below hb6)
  have HB6 := Lib.hid (bl_then HB5.out hb6)
  have HKK := Lib.hid hk
  have HLI : Hid (LostIn w6 b.C (⟨some ⟨k, 0, none⟩, 1, 1⟩, 5)) := Lib.hid (.inr ⟨k, by have := block_lt H5.out.curs; omega, rfl, hblk⟩)
  clear hk hblk hb6
  go_wp2_with fail
  refine (logPost H6.out 0 _ 5 HLI.out true (by decide) (aw3 k) rfl).mono ?_
  rintro e w7 ⟨rfl, h7, o7⟩
  have H7 := Lib.hid h7
  have HB7 := Lib.hid (bl_only HB6.out o7 (fun i hi => by
    rcases hi with rfl | ⟨j, hj, rfl⟩
    · exact H1.out.lo.2.2.2.1
    · exact (H1.out.lo.2.2.2.2.2 j hj).2))
  clear h7 o7
  go_wp2_with fail
  refine (logCollect H7.out _ (aw_c3 k)).mono ?_
  rintro e w8 ⟨X, rfl, hX, hXb, hb8⟩
  have H8 := Lib.hid (H7.out.below hb8)
  have HB8 := Lib.hid (bl_then HB7.out hb8)
  clear hb8
  go_wp2_with fail
  refine (logReply_yes H8.out 3 (aw_c3 k) (aw_l3 k)).mono ?_
  rintro e w9 ⟨rfl, h9, o9⟩
  have H9 : Hid (LogAt w9 w.heap.size L b (aw4 k)) := Lib.hid h9
  have HB9 := Lib.hid (bl_only HB8.out o9 (own_lo H8.out))
  have hX9 : w9.heap[X]? = some (.cells (OutV.cells ⟨some ⟨k, 0, none⟩, 1, 1⟩).toArray 47 (0, 0)) := o9.block hXb (fun g => absurd (own_in H7.out X g) (by omega))
  have HL9 : Hid (LostIn w9 b.C (⟨some ⟨k, 0, none⟩, 1, 1⟩, 5)) := by
    have h8 : LostIn w8 b.C (⟨some ⟨k, 0, none⟩, 1, 1⟩, 5) := H8.out.lost 0 0 _ (Nat.zero_lt_one) rfl
    rcases h8 with h8 | ⟨k', g1, g2, g3⟩
    · cases h8
    · have e : k = k' := by
        injection g2 with g2
        injection g2 with g2
        injection g2
      subst e
      exact Lib.hid (.inr ⟨k, g1, rfl, o9.block g3 (fun g => absurd (own_in H5.out k g) (by have := HKK.out; omega))⟩)
  have x0 : w9.cell? ⟨X, 0, none⟩ = some (.slice none 0 0) := cell_of_blk (cs := OutV.cells ⟨some ⟨k, 0, none⟩, 1, 1⟩) hX9 0
  have x1 : w9.cell? ⟨X, 1, none⟩ = some (.slice (some ⟨k, 0, none⟩) 1 1) := cell_of_blk (cs := OutV.cells ⟨some ⟨k, 0, none⟩, 1, 1⟩) hX9 1
  have x2 : w9.cell? ⟨X, 2, none⟩ = some (.slice none 0 0) := cell_of_blk (cs := OutV.cells ⟨some ⟨k, 0, none⟩, 1, 1⟩) hX9 2
  have x3 : w9.cell? ⟨X, 3, none⟩ = some (.slice none 0 0) := cell_of_blk (cs := OutV.cells ⟨some ⟨k, 0, none⟩, 1, 1⟩) hX9 3
  clear h9 o9 hX hXb hX9
  go_wp2_with fail
  refine (of_any HL9.out).mono ?_
  rintro e w10 ⟨rfl, hb10⟩
  have H10 := Lib.hid (H9.out.below hb10)
  have HB10 := Lib.hid (bl_then HB9.out hb10)
  clear hb10 x0 x1 x2 x3
  go_wp2_with fail
  refine (logTake_to H10.out 1 false true (by rfl) _ rfl (by decide)).mono ?_
  rintro e w11 ⟨rfl, h11, o11⟩
  have HB11 := Lib.hid (bl_only HB10.out o11 (fun i hi => by subst hi; exact H1.out.lo.1))
  clear h11 o11
  go_wp2_with fail
  go_ret
  exact ⟨rfl, HB11.out⟩
end Go.Proofs.Ytibbnikfecilhaa
