/- Chapter 19: an act is done with both: a worker tells something; a worker leaves. (Printed by lggen.py.) -/
import Derived.Test.YtibbnikfecilhaaLgDE
namespace Go.Proofs.Ytibbnikfecilhaa
open Go.RowKit
set_option linter.unusedVariables false
set_option linter.unusedSimpArgs false

set_option maxHeartbeats 8000000 in
set_option maxRecDepth 20000 in
theorem does_post {w0 wB w : World} {L D : Nat} {b : LogB} {s : LogS} (h : Both w0 wB w L D b s) (k at_ n : Int) (hq : k % 10 = 4 ∨ k % 10 = 5) (hsm : s.tail + 1 ≤ 1000000) :
    Calls Try.prog 27 #[.pointer (some ⟨L, 0, none⟩), .pointer (some ⟨D, 0, none⟩), .agg #[.int .i64 k, .int .i64 at_, .int .i64 n]] w fun e w' => e = .returned (.bool true) ∧ ∃ x, Both w0 wB w' L D b (stepTo s k at_ n x) := by
  obtain ⟨t, ht⟩ : ∃ t, at_ % 5 - 1 = t := ⟨_, rfl⟩
  obtain ⟨r, hr⟩ : ∃ r, s.posts t = r := ⟨_, rfl⟩
  have hs' : ∀ x, stepTo s k at_ n x = if r = true then s.posted t (x, n) else s := fun x => by
    unfold stepTo
    rw [if_neg (by omega), if_neg (by omega), if_pos (by omega), ht, hr]
  have HS := Lib.hid hs'
  have HR := Lib.hid hr
  clear hs' hr
  have hb := bl_alloc (Below.refl _ w) (.cells #[.int .i64 k, .int .i64 at_, .int .i64 n] 75)
  have hz := alloc_new w (.cells #[.int .i64 k, .int .i64 at_, .int .i64 n] 75)
  have h1 := h.below hb
  obtain ⟨x0, x1, x2⟩ := three_of hz
  have HZ := Lib.hid hz
  have H1 := Lib.hid h1
  have HQ := Lib.hid hq
  clear h hb hz h1 hq
  go_enter Try.func27, Try.ntmps27
  go_wp2_with fail
  obtain ⟨P, hP⟩ : ∃ P, P = w.heap.size := ⟨_, rfl⟩
  rw [← hP] at HZ x0 x1 x2
  rw [← hP]
  clear hP
  generalize w.alloc (.cells #[.int .i64 k, .int .i64 at_, .int .i64 n] 75) = w1 at *
  refine (rest_any _ 5 _ (by decide) (by decide)).mono ?_
  rintro e w' ⟨rfl, rfl⟩
  go_wp2_with fail
  refine (rest_any _ 10 _ (by decide) (by decide)).mono ?_
  rintro e w' ⟨rfl, rfl⟩
  obtain ⟨lo, hlo, hl1⟩ := H1.out.log
  obtain ⟨lo', d, hlo', hr1⟩ := H1.out.ref
  have HL1 := Lib.hid hl1
  have HR1 := Lib.hid hr1
  have HBL := Lib.hid H1.out.bel
  have HLO := Lib.hid hlo
  have HLO' := Lib.hid hlo'
  clear hl1 hr1 hlo hlo' H1 x0 x1 x2
  rcases HQ.out with hq | hq
  all_goals
    simp only [hq, ht]
    clear hq
    go_wp2_with fail
    have HZD : Hid (w1.drew.heap[P]? = some (.cells #[.int .i64 k, .int .i64 at_, .int .i64 n] 75 (0, 0))) := Lib.hid HZ.out
    have hbd := bl_drew (Below.refl _ w1)
    have HL1D := Lib.hid (HL1.out.below hbd)
    have HR1D := Lib.hid (HR1.out.below hbd)
    have HBLD := Lib.hid (HBL.out.to hbd)
    clear hbd
    go_region_held3 (fun w' => w'.cell? ⟨P, 0, none⟩ = some (.int .i64 k) ∧ w'.cell? ⟨P, 1, none⟩ = some (.int .i64 at_) ∧ w'.cell? ⟨P, 2, none⟩ = some (.int .i64 n)) (first | exact three_of hz6 | exact three_of hz5 | exact three_of hz3 | exact three_of hz2 | exact three_of HZD.out)
      (first
        | (have later := hz3; go_at_call 16; refine (out_any n _).mono ?_; rintro e w5 ⟨k5, rfl, hk5, hkb5, hb5⟩; have hz5 := (hb5.block _ (block_lt hz3)).trans hz3; have HLI5 : Hid (LostIn w5 b.C (⟨some ⟨k5, 0, none⟩, 1, 1⟩, n)) := Lib.hid (.inr ⟨k5, by have := block_lt H3.out.curs; omega, rfl, hkb5⟩); have H5 := Lib.hid (H3.out.below hb5); have O5 := Lib.hid (O3.out.trans (Only.of_below hb5)); have HR5 := Lib.hid (HR3.out.below hb5); clear later hk5 hkb5 hb5)
        | (go_at_call 16; refine (out_any n _).mono ?_; rintro e w2 ⟨k2, rfl, hk2, hkb2, hb2⟩; have hz2 := (hb2.block _ (block_lt HZD.out)).trans HZD.out; have HLI2 : Hid (LostIn w2 b.C (⟨some ⟨k2, 0, none⟩, 1, 1⟩, n)) := Lib.hid (.inr ⟨k2, by have := block_lt HL1D.out.curs; omega, rfl, hkb2⟩); have H2 := Lib.hid (HL1D.out.below hb2); have HR2 := Lib.hid (HR1D.out.below hb2); have HB2 := Lib.hid (HBLD.out.to hb2); clear hk2 hkb2 hb2)
        | (go_at_call 15; refine (logPost H2.out t ⟨some ⟨k2, 0, none⟩, 1, 1⟩ n HLI2.out r HR.out _ rfl).mono ?_; rintro e w3 ⟨rfl, h3, o3⟩; have o3' := o3.mono (own_W (L := L) (b := b) (m := s.cfg.sh)); have hz3 := typ_own H2.out hz2 (by decide) o3'; have hr3 := HR2.out.own H2.out o3'; have H3 := Lib.hid h3; have O3 := Lib.hid o3'; have HR3 := Lib.hid hr3; clear h3 o3 o3' hr3)
        | (go_at_call 50; refine (refPost HR5.out t ⟨some ⟨k5, 0, none⟩, 1, 1⟩ n HLI5.out r HR.out ⟨some ⟨k2, 0, none⟩, 1, 1⟩ _ rfl).mono ?_; rintro e w6 ⟨rfl, ⟨d6, h6⟩, o6⟩; have hz6 := typ_dock hz5 (by decide) o6; have H6 := Lib.hid h6; have O6 := Lib.hid o6; clear h6 o6))
    all_goals
      go_wp2_with fail
      go_ret
      exact ⟨by simp, ⟨some ⟨k2, 0, none⟩, 1, 1⟩, by rw [HS.out]; exact Both.step HB2.out HLO.out HLO'.out H2.out H5.out O5.out H6.out O6.out⟩
set_option maxHeartbeats 8000000 in
set_option maxRecDepth 20000 in
theorem does_leave {w0 wB w : World} {L D : Nat} {b : LogB} {s : LogS} (h : Both w0 wB w L D b s) (k at_ n : Int) (hq : k % 10 = 6) (hsm : s.tail + 1 ≤ 1000000) (s' : LogS) (hs' : stepTo s k at_ n OutV.zero = s') :
    Calls Try.prog 27 #[.pointer (some ⟨L, 0, none⟩), .pointer (some ⟨D, 0, none⟩), .agg #[.int .i64 k, .int .i64 at_, .int .i64 n]] w fun e w' => e = .returned (.bool true) ∧ Both w0 wB w' L D b s' := by
  unfold stepTo at hs'
  rw [if_neg (by omega), if_neg (by omega), if_neg (by omega), if_pos (by omega)] at hs'
  obtain ⟨t, ht⟩ : ∃ t, at_ % 5 - 1 = t := ⟨_, rfl⟩
  rw [ht] at hs'
  obtain ⟨r, hr⟩ : ∃ r, s.leaves t = r := ⟨_, rfl⟩
  rw [hr] at hs'
  have HS := Lib.hid hs'
  have HR := Lib.hid hr
  clear hs' hr
  have hb := bl_alloc (Below.refl _ w) (.cells #[.int .i64 k, .int .i64 at_, .int .i64 n] 75)
  have hz := alloc_new w (.cells #[.int .i64 k, .int .i64 at_, .int .i64 n] 75)
  have h1 := h.below hb
  obtain ⟨x0, x1, x2⟩ := three_of hz
  have HZ := Lib.hid hz
  have H1 := Lib.hid h1
  have HQ := Lib.hid hq
  clear h hb hz h1 hq
  go_enter Try.func27, Try.ntmps27
  go_wp2_with fail
  obtain ⟨P, hP⟩ : ∃ P, P = w.heap.size := ⟨_, rfl⟩
  rw [← hP] at HZ x0 x1 x2
  rw [← hP]
  clear hP
  generalize w.alloc (.cells #[.int .i64 k, .int .i64 at_, .int .i64 n] 75) = w1 at *
  refine (rest_any _ 5 _ (by decide) (by decide)).mono ?_
  rintro e w' ⟨rfl, rfl⟩
  go_wp2_with fail
  refine (rest_any _ 10 _ (by decide) (by decide)).mono ?_
  rintro e w' ⟨rfl, rfl⟩
  obtain ⟨lo, hlo, hl1⟩ := H1.out.log
  obtain ⟨lo', d, hlo', hr1⟩ := H1.out.ref
  have HL1 := Lib.hid hl1
  have HR1 := Lib.hid hr1
  have HBL := Lib.hid H1.out.bel
  have HLO := Lib.hid hlo
  have HLO' := Lib.hid hlo'
  clear hl1 hr1 hlo hlo' x0 x1
  have hq := HQ.out
  simp only [hq, ht]
  clear hq
  by_cases hn : n % 5 = 0
  · have d1 : (n % 5 != 0) = false := by simpa using hn
    have HS2 : Hid ((if r = true then s.left t else s) = s') := Lib.hid (by
      have := HS.out
      rw [← this]
      cases r <;> simp [hn])
    clear hn H1
    go_wp2_with fail
    refine (rest_any _ 5 _ (by decide) (by decide)).mono ?_
    rintro e w' ⟨rfl, rfl⟩
    go_wp2_with fail
    refine (logLeave HL1.out t r HR.out s' HS2.out).mono ?_
    rintro e w3 ⟨rfl, h3, o3⟩
    have o3' := o3.mono (own_C (L := L) (b := b) (m := s.cfg.sh))
    have hr3 := HR1.out.own HL1.out o3'
    have H3 := Lib.hid h3
    have O3 := Lib.hid o3'
    have HR3 := Lib.hid hr3
    clear h3 o3 o3' hr3
    go_wp2_with fail
    refine (refLeave HR3.out t r HR.out s' HS2.out).mono ?_
    rintro e w4 ⟨rfl, ⟨d4, h4⟩, o4⟩
    have H4 := Lib.hid h4
    have O4 := Lib.hid o4
    clear h4 o4
    go_wp2_with fail
    go_ret
    exact ⟨by simp, Both.step HBL.out HLO.out HLO'.out HL1.out H3.out O3.out H4.out O4.out⟩
  · have d1 : (n % 5 != 0) = true := by simpa using hn
    have HS2 : Hid (s = s') := Lib.hid (by
      have := HS.out
      rw [← this, if_neg (fun g => hn g.1)])
    clear hn
    go_wp2_with fail
    refine (rest_any _ 5 _ (by decide) (by decide)).mono ?_
    rintro e w' ⟨rfl, rfl⟩
    go_wp2_with fail
    go_ret
    exact ⟨rfl, HS2.out ▸ H1.out⟩
end Go.Proofs.Ytibbnikfecilhaa
