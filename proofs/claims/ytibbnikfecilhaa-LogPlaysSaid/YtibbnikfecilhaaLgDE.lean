/- Chapter 19: an act is done with both: a command is filled in. (Printed by lggen.py.) -/
import Derived.Test.YtibbnikfecilhaaLgDD
namespace Go.Proofs.Ytibbnikfecilhaa
open Go.RowKit
set_option linter.unusedVariables false
set_option linter.unusedSimpArgs false

theorem cmd_of {w' : World} {Q : Nat} {kd nn : Int} (h : w'.heap[Q]? = some (.cells #[.int .i64 kd, .int .i64 0, .int .i64 nn, .int .i64 0, .int .i64 0, .int .i64 0, .int .i64 0, .int .i64 0, .int .i64 0, .int .i64 0, .int .i64 0, .slice none 0 0, .int .i64 0, .bool false] 39 (0, 0))) : w'.cell? ⟨Q, 0, none⟩ = some (.int .i64 kd) ∧ w'.cell? ⟨Q, 1, none⟩ = some (.int .i64 0) ∧ w'.cell? ⟨Q, 2, none⟩ = some (.int .i64 nn) ∧ w'.cell? ⟨Q, 3, none⟩ = some (.int .i64 0) ∧ w'.cell? ⟨Q, 4, none⟩ = some (.int .i64 0) ∧ w'.cell? ⟨Q, 5, none⟩ = some (.int .i64 0) ∧ w'.cell? ⟨Q, 6, none⟩ = some (.int .i64 0) ∧ w'.cell? ⟨Q, 7, none⟩ = some (.int .i64 0) ∧ w'.cell? ⟨Q, 8, none⟩ = some (.int .i64 0) ∧ w'.cell? ⟨Q, 9, none⟩ = some (.int .i64 0) ∧ w'.cell? ⟨Q, 10, none⟩ = some (.int .i64 0) ∧ w'.cell? ⟨Q, 11, none⟩ = some (.slice none 0 0) ∧ w'.cell? ⟨Q, 12, none⟩ = some (.int .i64 0) ∧ w'.cell? ⟨Q, 13, none⟩ = some (.bool false) := ⟨cell_of_blk (cs := [.int .i64 kd, .int .i64 0, .int .i64 nn, .int .i64 0, .int .i64 0, .int .i64 0, .int .i64 0, .int .i64 0, .int .i64 0, .int .i64 0, .int .i64 0, .slice none 0 0, .int .i64 0, .bool false]) h 0, cell_of_blk (cs := [.int .i64 kd, .int .i64 0, .int .i64 nn, .int .i64 0, .int .i64 0, .int .i64 0, .int .i64 0, .int .i64 0, .int .i64 0, .int .i64 0, .int .i64 0, .slice none 0 0, .int .i64 0, .bool false]) h 1, cell_of_blk (cs := [.int .i64 kd, .int .i64 0, .int .i64 nn, .int .i64 0, .int .i64 0, .int .i64 0, .int .i64 0, .int .i64 0, .int .i64 0, .int .i64 0, .int .i64 0, .slice none 0 0, .int .i64 0, .bool false]) h 2, cell_of_blk (cs := [.int .i64 kd, .int .i64 0, .int .i64 nn, .int .i64 0, .int .i64 0, .int .i64 0, .int .i64 0, .int .i64 0, .int .i64 0, .int .i64 0, .int .i64 0, .slice none 0 0, .int .i64 0, .bool false]) h 3, cell_of_blk (cs := [.int .i64 kd, .int .i64 0, .int .i64 nn, .int .i64 0, .int .i64 0, .int .i64 0, .int .i64 0, .int .i64 0, .int .i64 0, .int .i64 0, .int .i64 0, .slice none 0 0, .int .i64 0, .bool false]) h 4, cell_of_blk (cs := [.int .i64 kd, .int .i64 0, .int .i64 nn, .int .i64 0, .int .i64 0, .int .i64 0, .int .i64 0, .int .i64 0, .int .i64 0, .int .i64 0, .int .i64 0, .slice none 0 0, .int .i64 0, .bool false]) h 5, cell_of_blk (cs := [.int .i64 kd, .int .i64 0, .int .i64 nn, .int .i64 0, .int .i64 0, .int .i64 0, .int .i64 0, .int .i64 0, .int .i64 0, .int .i64 0, .int .i64 0, .slice none 0 0, .int .i64 0, .bool false]) h 6, cell_of_blk (cs := [.int .i64 kd, .int .i64 0, .int .i64 nn, .int .i64 0, .int .i64 0, .int .i64 0, .int .i64 0, .int .i64 0, .int .i64 0, .int .i64 0, .int .i64 0, .slice none 0 0, .int .i64 0, .bool false]) h 7, cell_of_blk (cs := [.int .i64 kd, .int .i64 0, .int .i64 nn, .int .i64 0, .int .i64 0, .int .i64 0, .int .i64 0, .int .i64 0, .int .i64 0, .int .i64 0, .int .i64 0, .slice none 0 0, .int .i64 0, .bool false]) h 8, cell_of_blk (cs := [.int .i64 kd, .int .i64 0, .int .i64 nn, .int .i64 0, .int .i64 0, .int .i64 0, .int .i64 0, .int .i64 0, .int .i64 0, .int .i64 0, .int .i64 0, .slice none 0 0, .int .i64 0, .bool false]) h 9, cell_of_blk (cs := [.int .i64 kd, .int .i64 0, .int .i64 nn, .int .i64 0, .int .i64 0, .int .i64 0, .int .i64 0, .int .i64 0, .int .i64 0, .int .i64 0, .int .i64 0, .slice none 0 0, .int .i64 0, .bool false]) h 10, cell_of_blk (cs := [.int .i64 kd, .int .i64 0, .int .i64 nn, .int .i64 0, .int .i64 0, .int .i64 0, .int .i64 0, .int .i64 0, .int .i64 0, .int .i64 0, .int .i64 0, .slice none 0 0, .int .i64 0, .bool false]) h 11, cell_of_blk (cs := [.int .i64 kd, .int .i64 0, .int .i64 nn, .int .i64 0, .int .i64 0, .int .i64 0, .int .i64 0, .int .i64 0, .int .i64 0, .int .i64 0, .int .i64 0, .slice none 0 0, .int .i64 0, .bool false]) h 12, cell_of_blk (cs := [.int .i64 kd, .int .i64 0, .int .i64 nn, .int .i64 0, .int .i64 0, .int .i64 0, .int .i64 0, .int .i64 0, .int .i64 0, .int .i64 0, .int .i64 0, .slice none 0 0, .int .i64 0, .bool false]) h 13⟩
set_option maxHeartbeats 8000000 in
set_option maxRecDepth 20000 in
theorem does_fill {w0 wB w : World} {L D : Nat} {b : LogB} {s : LogS} (h : Both w0 wB w L D b s) (k at_ n : Int) (hq : k % 10 = 2 ∨ k % 10 = 3) (hsm : s.tail + 1 ≤ 1000000) (s' : LogS) (hs' : stepTo s k at_ n OutV.zero = s') :
    Calls Try.prog 27 #[.pointer (some ⟨L, 0, none⟩), .pointer (some ⟨D, 0, none⟩), .agg #[.int .i64 k, .int .i64 at_, .int .i64 n]] w fun e w' => e = .returned (.bool true) ∧ Both w0 wB w' L D b s' := by
  unfold stepTo at hs'
  rw [if_neg (by omega), if_pos (by omega)] at hs'
  obtain ⟨t, ht⟩ : ∃ t, (s.low : Int) + at_ % 7 - 1 = t := ⟨_, rfl⟩
  rw [ht] at hs'
  obtain ⟨r, hr⟩ : ∃ r, s.fills t = r := ⟨_, rfl⟩
  rw [hr] at hs'
  have hb := bl_alloc (Below.refl _ w) (.cells #[.int .i64 k, .int .i64 at_, .int .i64 n] 75)
  have hz := alloc_new w (.cells #[.int .i64 k, .int .i64 at_, .int .i64 n] 75)
  have h1 := h.below hb
  have hlow : s.low ≤ 1000000 := by
    obtain ⟨_, _, hl⟩ := h.log
    have := hl.inv.low
    omega
  have htb : -9223372036854775808 ≤ t ∧ t ≤ 9223372036854775807 := by omega
  obtain ⟨x0, x1, x2⟩ := three_of hz
  obtain ⟨kd, hkd⟩ : ∃ kd, 1 + n % 5 = kd := ⟨_, rfl⟩
  rw [hkd] at hs'
  have hw1 : IntKind.i64.wrap kd = kd := wrap_small (by omega)
  have hw2 : IntKind.i64.wrap (IntKind.i64.wrap ((s.low : Int) + at_ % 7) - 1) = t := by
    rw [wrap_small (n := (s.low : Int) + at_ % 7) (by omega), wrap_small (by omega)]
    exact ht
  have HZ := Lib.hid hz
  have H1 := Lib.hid h1
  have HT := Lib.hid ht
  have HR := Lib.hid hr
  have HS := Lib.hid hs'
  have HTB := Lib.hid htb
  have HQ := Lib.hid hq
  clear h hb hz h1 ht hr hs' htb hq
  go_enter Try.func27, Try.ntmps27
  go_wp2_with fail
  obtain ⟨P, hP⟩ : ∃ P, P = w.heap.size := ⟨_, rfl⟩
  rw [← hP] at HZ x0 x1 x2
  rw [← hP]
  clear hP
  generalize w.alloc (.cells #[.int .i64 k, .int .i64 at_, .int .i64 n] 75) = w1 at *
  refine (rest_any _ 5 _ (by decide) (by decide)).mono ?_
  rintro e w' ⟨rfl, rfl⟩
  go_wp2_with fail
  refine (rest_any _ 10 _ (by decide) (by decide)).mono ?_
  rintro e w' ⟨rfl, rfl⟩
  obtain ⟨lo, hlo, hl1⟩ := H1.out.log
  obtain ⟨lo', d, hlo', hr1⟩ := H1.out.ref
  have hst : ∀ W, Below w1.heap.size w1 W → W.cell? ⟨P, 0, none⟩ = some (.int .i64 k) ∧ W.cell? ⟨P, 1, none⟩ = some (.int .i64 at_) ∧ W.cell? ⟨P, 2, none⟩ = some (.int .i64 n) ∧ W.cell? ⟨D, 9, none⟩ = some (.int .i64 s.low) := fun W hW => by
    obtain ⟨y0, y1, y2⟩ := three_of ((hW.block _ (block_lt HZ.out)).trans HZ.out)
    exact ⟨y0, y1, y2, (hr1.below hW).cell 9⟩
  have HST := Lib.hid hst
  have HL1 := Lib.hid hl1
  have HR1 := Lib.hid hr1
  have HBL := Lib.hid H1.out.bel
  have HLO := Lib.hid hlo
  have HLO' := Lib.hid hlo'
  clear hst hl1 hr1 hlo hlo' H1 x0 x1 x2
  rcases HQ.out with hq | hq
  all_goals
    simp only [hq]
    clear hq
    go_wp2_with fail
    go_region_held3 (fun w' => w'.cell? ⟨P, 0, none⟩ = some (.int .i64 k) ∧ w'.cell? ⟨P, 1, none⟩ = some (.int .i64 at_) ∧ w'.cell? ⟨P, 2, none⟩ = some (.int .i64 n) ∧ w'.cell? ⟨D, 9, none⟩ = some (.int .i64 s.low)) (exact HST.out _ (bl_drew (Below.refl _ _)))
      (first | (go_at_call 10; refine (rest_any _ _ _ (by decide) (by decide)).mono ?_; rintro e w' ⟨rfl, rfl⟩))
    all_goals
      go_wp2_with fail
      have hz2 : w1.drew.heap[P]? = some (.cells #[.int .i64 k, .int .i64 at_, .int .i64 n] 75 (0, 0)) := HZ.out
      have HZ2 := Lib.hid hz2
      clear hz2
      go_region_held3 (fun w' => w'.cell? ⟨P, 0, none⟩ = some (.int .i64 k) ∧ w'.cell? ⟨P, 1, none⟩ = some (.int .i64 at_) ∧ w'.cell? ⟨P, 2, none⟩ = some (.int .i64 n)) (exact three_of (by repeat' (first | exact HZ2.out | with_reducible refine drew_blk ?_ | with_reducible refine alloc_old ?_ _)))
        (first | (go_at_call 10; refine (rest_any _ _ _ (by decide) (by decide)).mono ?_; rintro e w' ⟨rfl, rfl⟩))
      all_goals
        go_wp2_with fail
        try rw [hkd]
        have hb3 : Below w1.heap.size w1 ((w1.alloc (.cells #[.int .i64 kd, .int .i64 0, .int .i64 n, .int .i64 0, .int .i64 0, .int .i64 0, .int .i64 0, .int .i64 0, .int .i64 0, .int .i64 0, .int .i64 0, .slice none 0 0, .int .i64 0, .bool false] 39)).drew.drew.drew) := bl_drew (bl_drew (bl_drew (bl_alloc (Below.refl _ _) _)))
        have hq3 : ((w1.alloc (.cells #[.int .i64 kd, .int .i64 0, .int .i64 n, .int .i64 0, .int .i64 0, .int .i64 0, .int .i64 0, .int .i64 0, .int .i64 0, .int .i64 0, .int .i64 0, .slice none 0 0, .int .i64 0, .bool false] 39)).drew.drew.drew).heap[w1.heap.size]? = some (.cells #[.int .i64 kd, .int .i64 0, .int .i64 n, .int .i64 0, .int .i64 0, .int .i64 0, .int .i64 0, .int .i64 0, .int .i64 0, .int .i64 0, .int .i64 0, .slice none 0 0, .int .i64 0, .bool false] 39 (0, 0)) := alloc_new w1 _
        have HL3 := Lib.hid (HL1.out.below hb3)
        have HR3 := Lib.hid (HR1.out.below hb3)
        have HB3 := Lib.hid (HBL.out.to hb3)
        have HQ3 := Lib.hid hq3
        clear hb3 hq3
        generalize w1.heap.size = Q at *
        generalize (w1.alloc (.cells #[.int .i64 kd, .int .i64 0, .int .i64 n, .int .i64 0, .int .i64 0, .int .i64 0, .int .i64 0, .int .i64 0, .int .i64 0, .int .i64 0, .int .i64 0, .slice none 0 0, .int .i64 0, .bool false] 39)).drew.drew = w3 at *
        go_region_held3 (fun w' => w'.cell? ⟨Q, 0, none⟩ = some (.int .i64 kd) ∧ w'.cell? ⟨Q, 1, none⟩ = some (.int .i64 0) ∧ w'.cell? ⟨Q, 2, none⟩ = some (.int .i64 n) ∧ w'.cell? ⟨Q, 3, none⟩ = some (.int .i64 0) ∧ w'.cell? ⟨Q, 4, none⟩ = some (.int .i64 0) ∧ w'.cell? ⟨Q, 5, none⟩ = some (.int .i64 0) ∧ w'.cell? ⟨Q, 6, none⟩ = some (.int .i64 0) ∧ w'.cell? ⟨Q, 7, none⟩ = some (.int .i64 0) ∧ w'.cell? ⟨Q, 8, none⟩ = some (.int .i64 0) ∧ w'.cell? ⟨Q, 9, none⟩ = some (.int .i64 0) ∧ w'.cell? ⟨Q, 10, none⟩ = some (.int .i64 0) ∧ w'.cell? ⟨Q, 11, none⟩ = some (.slice none 0 0) ∧ w'.cell? ⟨Q, 12, none⟩ = some (.int .i64 0) ∧ w'.cell? ⟨Q, 13, none⟩ = some (.bool false)) (first | exact cmd_of hz5 | exact cmd_of hz4 | exact cmd_of HQ3.out)
          (first
            | (go_at_call 13; refine (logFill HL3.out t ⟨kd, n⟩ r HR.out s' HS.out HTB.out).mono ?_; rintro e w4 ⟨rfl, h4, o4⟩; have o4' := o4.mono (own_B (L := L) (b := b) (m := s.cfg.sh)); have hz4 := typ_own HL3.out HQ3.out (by decide) o4'; have hr4 := HR3.out.own HL3.out o4'; have H4 := Lib.hid h4; have O4 := Lib.hid o4'; have HR4 := Lib.hid hr4; clear h4 o4 o4' hr4)
            | (go_at_call 49; refine (refFill HR4.out t ⟨kd, n⟩ r HR.out s' HS.out).mono ?_; rintro e w5 ⟨rfl, h5, o5⟩; have hz5 := typ_dock hz4 (by decide) o5; have H5 := Lib.hid h5; have O5 := Lib.hid o5; clear h5 o5))
        all_goals
          go_wp2_with fail
          go_ret
          exact ⟨by simp, Both.step HB3.out HLO.out HLO'.out HL3.out H4.out O4.out H5.out O5.out⟩
end Go.Proofs.Ytibbnikfecilhaa
