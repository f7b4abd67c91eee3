/- Chapter 19: an act is done with both: an answer is given, and asked for. (Printed by lggen.py.) -/
import Derived.Test.YtibbnikfecilhaaLgDF
namespace Go.Proofs.Ytibbnikfecilhaa
open Go.RowKit
set_option linter.unusedVariables false
set_option linter.unusedSimpArgs false

set_option maxHeartbeats 8000000 in
set_option maxRecDepth 20000 in
theorem does_reply {w0 wB w : World} {L D : Nat} {b : LogB} {s : LogS} (h : Both w0 wB w L D b s) (k at_ n : Int) (hq : k % 10 = 7 ∨ k % 10 = 8) (hsm : s.tail + 1 ≤ 1000000) (s' : LogS) (hs' : stepTo s k at_ n OutV.zero = s') :
    Calls Try.prog 27 #[.pointer (some ⟨L, 0, none⟩), .pointer (some ⟨D, 0, none⟩), .agg #[.int .i64 k, .int .i64 at_, .int .i64 n]] w fun e w' => e = .returned (.bool true) ∧ Both w0 wB w' L D b s' := by
  unfold stepTo at hs'
  rw [if_neg (by omega), if_neg (by omega), if_neg (by omega), if_neg (by omega), if_pos (by omega)] at hs'
  have hb := bl_alloc (Below.refl _ w) (.cells #[.int .i64 k, .int .i64 at_, .int .i64 n] 75)
  have hz := alloc_new w (.cells #[.int .i64 k, .int .i64 at_, .int .i64 n] 75)
  have h1 := h.below hb
  obtain ⟨x0, x1, x2⟩ := three_of hz
  have HZ := Lib.hid hz
  have H1 := Lib.hid h1
  have HQ := Lib.hid hq
  clear h hb hz h1 hq
  go_enter Try.func27, Try.ntmps27
  go_wp2_with fail
  obtain ⟨P, hP⟩ : ∃ P, P = w.heap.size := ⟨_, rfl⟩
  rw [← hP] at HZ x0 x1 x2
  rw [← hP]
  clear hP
  generalize w.alloc (.cells #[.int .i64 k, .int .i64 at_, .int .i64 n] 75) = w1 at *
  refine (rest_any _ 5 _ (by decide) (by decide)).mono ?_
  rintro e w' ⟨rfl, rfl⟩
  go_wp2_with fail
  refine (rest_any _ 10 _ (by decide) (by decide)).mono ?_
  rintro e w' ⟨rfl, rfl⟩
  obtain ⟨lo, hlo, hl1⟩ := H1.out.log
  obtain ⟨lo', d, hlo', hr1⟩ := H1.out.ref
  have HL1 := Lib.hid hl1
  have HR1 := Lib.hid hr1
  have HBL := Lib.hid H1.out.bel
  have HLO := Lib.hid hlo
  have HLO' := Lib.hid hlo'
  clear hl1 hr1 hlo hlo' H1 x0 x1 x2
  cases hcl : s.collect with
  | none =>
    rw [hcl, if_neg (by simp)] at hs'
    subst hs'
    have HCL := Lib.hid hcl
    clear hcl
    rcases HQ.out with hq | hq
    all_goals
      simp only [hq]
      clear hq
      go_wp2_with fail
      have HZD : Hid (w1.drew.heap[P]? = some (.cells #[.int .i64 k, .int .i64 at_, .int .i64 n] 75 (0, 0))) := Lib.hid HZ.out
      have hbd := bl_drew (Below.refl _ w1)
      have HL1D := Lib.hid (HL1.out.below hbd)
      have HR1D := Lib.hid (HR1.out.below hbd)
      have HBLD := Lib.hid (HBL.out.to hbd)
      clear hbd
      go_region_held3 (fun w' => w'.cell? ⟨P, 0, none⟩ = some (.int .i64 k) ∧ w'.cell? ⟨P, 1, none⟩ = some (.int .i64 at_) ∧ w'.cell? ⟨P, 2, none⟩ = some (.int .i64 n)) (first | exact three_of hz4 | exact three_of hz3 | exact three_of HZD.out)
        (first
          | (go_at_call 20; refine (logReply HL1D.out n HCL.out).mono ?_; rintro e w3 ⟨rfl, hb3⟩; have hz3 := (hb3.block _ (block_lt HZD.out)).trans HZD.out; have H3 := Lib.hid (HL1D.out.below hb3); have HR3 := Lib.hid (HR1D.out.below hb3); have HB3 := Lib.hid (HBLD.out.to hb3); clear hb3)
          | (go_at_call 52; refine (refReply_no HR3.out n HCL.out).mono ?_; rintro e w4 ⟨rfl, hb4⟩; have hz4 := (hb4.block _ (block_lt hz3)).trans hz3; have H4 := Lib.hid (H3.out.below hb4); have HR4 := Lib.hid (HR3.out.below hb4); have HB4 := Lib.hid (HB3.out.to hb4); clear hb4))
      all_goals
        go_wp2_with fail
        go_ret
        exact ⟨by simp, ⟨lo, HLO.out, H4.out⟩, ⟨lo', d, HLO'.out, HR4.out⟩, HB4.out⟩
  | some l =>
    rw [hcl, if_pos (show (some l).isSome = true from rfl)] at hs'
    obtain ⟨c, hlk, _, _⟩ := collect_some hcl
    have hkd : (s.cmdV s.low) = c := by
      have := hlk
      rw [ref_lies HR1.out (Nat.le_refl _)] at this
      unfold LogS.cmdV
      rw [this]
      rfl
    rw [hkd] at hs'
    subst hs'
    have HCL := Lib.hid hcl
    have HLK := Lib.hid hlk
    clear hcl hlk hkd
    rcases HQ.out with hq | hq
    all_goals
      simp only [hq]
      clear hq
      go_wp2_with fail
      have HZD : Hid (w1.drew.heap[P]? = some (.cells #[.int .i64 k, .int .i64 at_, .int .i64 n] 75 (0, 0))) := Lib.hid HZ.out
      have hbd := bl_drew (Below.refl _ w1)
      have HL1D := Lib.hid (HL1.out.below hbd)
      have HR1D := Lib.hid (HR1.out.below hbd)
      have HBLD := Lib.hid (HBL.out.to hbd)
      clear hbd
      go_region_held3 (fun w' => w'.cell? ⟨P, 0, none⟩ = some (.int .i64 k) ∧ w'.cell? ⟨P, 1, none⟩ = some (.int .i64 at_) ∧ w'.cell? ⟨P, 2, none⟩ = some (.int .i64 n)) (first | exact three_of hz4 | exact three_of hz3 | exact three_of HZD.out)
        (first
          | (go_at_call 20; refine (logReply_yes HL1D.out n HCL.out HLK.out).mono ?_; rintro e w3 ⟨rfl, h3, o3⟩; have hz3 := typ_own HL1D.out HZD.out (by decide) o3; have hr3 := HR1D.out.own HL1D.out o3; have H3 := Lib.hid h3; have O3 := Lib.hid o3; have HR3 := Lib.hid hr3; clear h3 o3 hr3)
          | (go_at_call 52; refine (refReply_yes HR3.out n HCL.out HLK.out).mono ?_; rintro e w4 ⟨rfl, ⟨d4, h4⟩, o4⟩; have hz4 := typ_dock hz3 (by decide) o4; have H4 := Lib.hid h4; have O4 := Lib.hid o4; clear h4 o4))
      all_goals
        go_wp2_with fail
        go_ret
        exact ⟨by simp, Both.step HBLD.out HLO.out HLO'.out HL1D.out H3.out O3.out H4.out O4.out⟩
set_option maxHeartbeats 8000000 in
set_option maxRecDepth 20000 in
theorem does_answer {w0 wB w : World} {L D : Nat} {b : LogB} {s : LogS} (h : Both w0 wB w L D b s) (k at_ n : Int) (hq : k % 10 = 9) (hsm : s.tail + 1 ≤ 1000000) (s' : LogS) (hs' : stepTo s k at_ n OutV.zero = s') :
    Calls Try.prog 27 #[.pointer (some ⟨L, 0, none⟩), .pointer (some ⟨D, 0, none⟩), .agg #[.int .i64 k, .int .i64 at_, .int .i64 n]] w fun e w' => e = .returned (.bool true) ∧ Both w0 wB w' L D b s' := by
  unfold stepTo at hs'
  rw [if_neg (by omega), if_neg (by omega), if_neg (by omega), if_neg (by omega), if_neg (by omega)] at hs'
  obtain ⟨t, ht⟩ : ∃ t, at_ % 25 = t := ⟨_, rfl⟩
  rw [ht] at hs'
  have htb : -9223372036854775808 ≤ t ∧ t ≤ 9223372036854775807 := by omega
  obtain ⟨v, hv⟩ : ∃ v, (s.ans t).getD 0 = v := ⟨_, rfl⟩
  obtain ⟨is, his⟩ : ∃ is, (s.ans t).isSome = is := ⟨_, rfl⟩
  have HV := Lib.hid hv
  have HIS := Lib.hid his
  have HTB := Lib.hid htb
  have HT := Lib.hid ht
  clear hv his htb ht
  have hb := bl_alloc (Below.refl _ w) (.cells #[.int .i64 k, .int .i64 at_, .int .i64 n] 75)
  have hz := alloc_new w (.cells #[.int .i64 k, .int .i64 at_, .int .i64 n] 75)
  have h1 := h.below hb
  obtain ⟨x0, x1, x2⟩ := three_of hz
  have HZ := Lib.hid hz
  have H1 := Lib.hid h1
  have HQ := Lib.hid hq
  clear h hb hz h1 hq
  go_enter Try.func27, Try.ntmps27
  go_wp2_with fail
  obtain ⟨P, hP⟩ : ∃ P, P = w.heap.size := ⟨_, rfl⟩
  rw [← hP] at HZ x0 x1 x2
  rw [← hP]
  clear hP
  generalize w.alloc (.cells #[.int .i64 k, .int .i64 at_, .int .i64 n] 75) = w1 at *
  refine (rest_any _ 5 _ (by decide) (by decide)).mono ?_
  rintro e w' ⟨rfl, rfl⟩
  go_wp2_with fail
  refine (rest_any _ 10 _ (by decide) (by decide)).mono ?_
  rintro e w' ⟨rfl, rfl⟩
  obtain ⟨lo, hlo, hl1⟩ := H1.out.log
  obtain ⟨lo', d, hlo', hr1⟩ := H1.out.ref
  have HL1 := Lib.hid hl1
  have HR1 := Lib.hid hr1
  have HBL := Lib.hid H1.out.bel
  have HLO := Lib.hid hlo
  have HLO' := Lib.hid hlo'
  clear hl1 hr1 hlo hlo' H1
  have hq := HQ.out
  simp only [hq]
  clear hq
  subst hs'
  go_wp2_with fail
  refine (rest_any _ 25 _ (by decide) (by decide)).mono ?_
  rintro e w' ⟨rfl, rfl⟩
  simp only [HT.out]
  go_wp2_with fail
  refine (logAnswer HL1.out t HTB.out v HV.out is HIS.out).mono ?_
  rintro e w3 ⟨rfl, h3, o3⟩
  have o3' := o3.mono (fun k hk => own_map (L := L) (b := b) (m := s.cfg.sh) hk)
  obtain ⟨X, hX⟩ : ∃ X, X = w3.heap.size := ⟨_, rfl⟩
  obtain ⟨w4, hw4⟩ : ∃ w4, w4 = w3.alloc (.cells #[.int .i64 0, .int .i64 v, .slice none 0 0] 58) := ⟨_, rfl⟩
  have hb4 : Below w3.heap.size w3 w4 := by rw [hw4]; exact bl_alloc (Below.refl _ _) _
  have HX4 : Hid (w4.heap[X]? = some (.cells #[.int .i64 0, .int .i64 v, .slice none 0 0] 58 (0, 0))) := Lib.hid (by rw [hw4, hX]; exact alloc_new _ _)
  have hz3 := typ_own HL1.out HZ.out (by decide) o3'
  have hz4 := (hb4.block _ (block_lt hz3)).trans hz3
  have H4 := Lib.hid (h3.below hb4)
  have O4 := Lib.hid (o3'.trans (Only.of_below hb4))
  have HR4 := Lib.hid ((HR1.out.own HL1.out o3').below hb4)
  obtain ⟨y0, y1, y2⟩ := three_of hz4
  have HZ4 := Lib.hid hz4
  have HW4 := Lib.hid hw4
  have HXE := Lib.hid hX
  rw [hw4] at y0 y1 y2
  clear x0 x1 x2 h3 o3 o3' hb4 hz3 hz4 hw4 hX
  go_wp2_with fail
  rw [← HW4.out, ← HXE.out]
  rw [← HW4.out] at y0 y1 y2
  refine (rest_any _ 25 _ (by decide) (by decide)).mono ?_
  rintro e w' ⟨rfl, rfl⟩
  simp only [HT.out]
  go_wp2_with fail
  refine (refAnswer HR4.out t v HV.out is HIS.out).mono ?_
  rintro e w5 ⟨rfl, h5, o5⟩
  have hx5 := typ_dock HX4.out (by decide) o5
  obtain ⟨Z, hZ⟩ : ∃ Z, Z = w5.heap.size := ⟨_, rfl⟩
  obtain ⟨w6, hw6⟩ : ∃ w6, w6 = w5.alloc (.cells #[.int .i64 0, .int .i64 v, .slice none 0 0] 58) := ⟨_, rfl⟩
  have hb6 : Below w5.heap.size w5 w6 := by rw [hw6]; exact bl_alloc (Below.refl _ _) _
  have hx6 := (hb6.block _ (block_lt hx5)).trans hx5
  have hzz : w6.heap[Z]? = some (.cells #[.int .i64 0, .int .i64 v, .slice none 0 0] 58 (0, 0)) := by rw [hw6, hZ]; exact alloc_new _ _
  obtain ⟨a0, a1, a2⟩ := three_of hx6
  obtain ⟨c0, c1, c2⟩ := three_of hzz
  have H6 := Lib.hid (h5.below hb6)
  have O6 := Lib.hid (o5.trans (Only.of_below hb6))
  have HW6 := Lib.hid hw6
  have HZE := Lib.hid hZ
  rw [hw6] at a0 a1 a2 c0 c1 c2
  rw [hZ] at c0 c1 c2
  clear y0 y1 y2 h5 o5 hx5 hb6 hx6 hzz hw6 hZ
  go_wp2_with fail
  rw [← HW6.out]
  go_ret
  exact ⟨by simp, Both.step HBL.out HLO.out HLO'.out HL1.out H4.out O4.out H6.out O6.out⟩
end Go.Proofs.Ytibbnikfecilhaa
