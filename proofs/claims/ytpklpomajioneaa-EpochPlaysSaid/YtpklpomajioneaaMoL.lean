/- Chapter 12: EpochPlays. (Printed by molgen.py.) -/
import Derived.Test.YtpklpomajioneaaMoP
namespace Go.Proofs.Ytpklpomajioneaa
open Go.RowKit
set_option linter.unusedVariables false
set_option linter.unusedSimpArgs false

theorem now_p {w : World} {lo b n : Nat} {s : EpS} {lv : Nat → Value} (h : EpAt w lo b n s lv) (q : Nat) : Calls Try.prog 20 #[.pointer (some ⟨b, 0, none⟩)] (w.drewN q) fun e w' => e = .returned (.int .i64 s.now) ∧ w' = w.drewN q := (now_any (h.drewN q)).mono fun _ _ ⟨h1, h2⟩ => ⟨h1, h2.symm⟩
set_option maxHeartbeats 8000000 in
set_option maxRecDepth 100000 in
theorem eplays_law (actors : Int) (Aa : Option Addr) (N cap : Nat) (l : List (Int × Int × Int)) (w : World) (ha : -9223372036854775808 ≤ actors ∧ actors ≤ 9223372036854775807) (hrow : RowAt (kPair (kInt .i64) (kPair (kInt .i64) (kInt .i64))) 24 w Aa N l) :
    Calls Try.prog 7 #[.int .i64 actors, .slice Aa N cap] w fun e w' => e = .returned (.bool true) ∧ Below w.heap.size w w' := by
  obtain ⟨n, hn⟩ : ∃ n : Nat, 1 + actors % 5 = (n : Int) := ⟨(1 + actors % 5).toNat, by omega⟩
  have n1 : 1 ≤ n := by omega
  have n5 : n ≤ 5 := by omega
  have hx := hrow.acts
  have hlen := hx.small
  have HX := Lib.hid hx
  have HNN := Lib.hid hn
  clear hrow hx hn
  go_enter Try.func7, Try.ntmps7
  go_wp2_with fail
  refine (awake_any _).mono ?_
  rintro e w1 ⟨rfl, b1⟩
  go_wp2_with fail
  refine (rest_any actors 5 _ (by decide) (by decide)).mono ?_
  rintro e w2 ⟨rfl, rfl⟩
  go_wp2_with fail
  simp only [HNN.out]
  refine (new_any n _ n1 (by omega)).mono ?_
  rintro e w2 ⟨rfl, h2, b2⟩
  go_wp2_with fail
  refine (mo_new n _ n1 (by omega)).mono ?_
  rintro e w3 ⟨rfl, ⟨R, c, h3⟩, b3⟩
  have hw12 := Nat.le_trans b1.size b2.size
  have hP0 : PW w w3 w1.heap.size w2.heap.size R n c EpS.zero EpS.zero (fun _ => .slice none 0 0) (fun _ => .slice none 0 0) :=
    ⟨(h2.lo b1.size).below0 b3, ⟨h3.eb, h3.rb, Nat.le_trans hw12 h3.lb, Nat.le_trans hw12 h3.lr, h3.n1, h3.n16, fun i hi => ownsRow_base (h3.row i hi) hw12, h3.apart⟩, bl_then (bl_then b1 b2) b3⟩
  have HP0 := Lib.hid hP0
  clear hP0 h2 h3 b1 b2 b3 hw12
  generalize w1.heap.size = b at *
  generalize w2.heap.size = bm at *
  go_wp2_with fail
  go_loopw [9] (fun i wr => ∃ (I : Nat) (s : EpS) (lv mv : Nat → Value), I ≤ N ∧ I ≤ 60 ∧ i = .int .i64 I ∧ PW w wr b bm R n c s s lv mv ∧ PInv n I s) (fun i _ => N - (intOf i).toNat)
  case atStart => exact ⟨0, EpS.zero, _, _, Nat.zero_le _, by omega, rfl, HP0.out, PInv.start n⟩
  case round =>
    obtain ⟨I, s, lv, mv, hI, hI2, rfl, hP, hInv⟩ := hrel
    clear HP0
    by_cases h1 : I < N ∧ I < 60
    · obtain ⟨h1, h2⟩ := h1
      obtain ⟨bs, off, k, at_, x, rfl, hli, ⟨hk, ht, hx⟩, hc⟩ := HX.out.at_ h1
      obtain ⟨c0, c1, c2⟩ := hc _ hP.bel
      have HP := Lib.hid hP
      have HI := Lib.hid hInv
      clear hli hc hP hInv
      have d60 : decide ((I : Int) < 60) = true := decide_eq_true (by omega)
      go_wp2_with fail
      refine (rest_any at_ ((n : Int) + 2) _ (by omega) (by omega)).mono ?_
      rintro e w4 ⟨rfl, rfl⟩
      obtain ⟨a1, ha1⟩ : ∃ a1, at_ % ((n : Int) + 2) = a1 := ⟨_, rfl⟩
      have ha2 : 0 ≤ a1 := by have := Int.emod_nonneg at_ (show (n : Int) + 2 ≠ 0 by omega); omega
      have ha3 : a1 < (n : Int) + 2 := by have := Int.emod_lt_of_pos at_ (show (0 : Int) < (n : Int) + 2 by omega); omega
      simp only [ha1]
      clear ha1
      have hP4 := HP.out.below (bl_alloc (Below.refl _ wr) (.cells #[.int .i64 k, .int .i64 at_, .int .i64 x] 30))
      have hbx := alloc_new wr (.cells #[.int .i64 k, .int .i64 at_, .int .i64 x] 30)
      go_wp2_with fail
      refine (rest_any k 6 _ (by decide) (by decide)).mono ?_
      rintro e w4 ⟨rfl, rfl⟩
      obtain ⟨K, hK⟩ : ∃ K, k % 6 = K := ⟨_, rfl⟩
      have hK0 : 0 ≤ K := by omega
      have hK6 : K < 6 := by omega
      simp only [hK]
      generalize wr.alloc (.cells #[.int .i64 k, .int .i64 at_, .int .i64 x] 30) = w4 at *
      obtain ⟨a, haa⟩ : ∃ a, a1 - 1 = a := ⟨_, rfl⟩
      simp only [haa]
      clear hK c0 c1 c2 HP haa ha2 ha3
      by_cases q0 : K = 0
      · subst q0
        go_wp2_with fail
        refine (e_pin hP4 a).mono ?_
        rintro e w5 ⟨rfl, hP5⟩
        go_wp2_with fail
        refine (m_pin hP5 HI.out.pin a).mono ?_
        rintro e w6 ⟨rfl, hP6⟩
        have hI6 := HI.out.pins a
        generalize pinB n s a = B at *
        generalize pinS n s a = s6 at *
        clear hP4 hP5 HI hbx
        go_wp2_with fail
        refine (e_pinned hP6 a).mono ?_
        rintro e w8 ⟨rfl, hP8⟩
        go_wp2_with fail
        refine (m_pinned hP8 hI6.pin a).mono ?_
        rintro e w9 ⟨rfl, hP9⟩
        have hle := fun q => e_limbo hP9 a q
        have hlm := fun q => m_limbo hP9 a q
        have hnw := fun q => now_p hP9.ep q
        have hcn := hP9.mo.c0
        have hm0 : (s6.now : Int) ≤ 61 := by have := hI6.now; omega
        generalize limboI n s6 a = Lb at *
        generalize pinnedI n s6 a = Pn at *
        generalize unpinB n s6 a = U at *
        have HLE := Lib.hid hle
        have HLM := Lib.hid hlm
        have HNW := Lib.hid hnw
        have HP9 := Lib.hid hP9
        have HI6 := Lib.hid hI6
        clear hle hlm hnw hP9 hP8 hP6 hI6
        go_wp2_with fail
        go_quiet ((first | (go_at_call 20; exact Calls.quiet_of_same (HNW.out _)) | (go_at_call 18; exact Calls.quiet_of_same (HLE.out _)) | (go_at_call 28; exact Calls.quiet_of_same (HLM.out _))))
        go_wp2_with fail
        go_roundw
        case rel => exact ⟨I + 1, s6, _, _, by omega, by omega, by simp, HP9.out.below (bl_drewN (Below.refl _ _) _), HI6.out⟩
        case measure => simp [intOf]; omega
      by_cases q1 : K = 1
      · subst q1
        go_wp2_with fail
        refine (e_unpin hP4 a).mono ?_
        rintro e w5 ⟨rfl, hP5⟩
        go_wp2_with fail
        refine (m_unpin hP5 HI.out.pin a).mono ?_
        rintro e w6 ⟨rfl, hP6⟩
        have hI6 := HI.out.unpins a
        generalize unpinB n s a = B at *
        generalize unpinS n s a = s6 at *
        clear hP4 hP5 HI hbx
        go_wp2_with fail
        refine (e_pinned hP6 a).mono ?_
        rintro e w8 ⟨rfl, hP8⟩
        go_wp2_with fail
        refine (m_pinned hP8 hI6.pin a).mono ?_
        rintro e w9 ⟨rfl, hP9⟩
        have hle := fun q => e_limbo hP9 a q
        have hlm := fun q => m_limbo hP9 a q
        have hnw := fun q => now_p hP9.ep q
        have hcn := hP9.mo.c0
        have hm0 : (s6.now : Int) ≤ 61 := by have := hI6.now; omega
        generalize limboI n s6 a = Lb at *
        generalize pinnedI n s6 a = Pn at *
        generalize unpinB n s6 a = U at *
        have HLE := Lib.hid hle
        have HLM := Lib.hid hlm
        have HNW := Lib.hid hnw
        have HP9 := Lib.hid hP9
        have HI6 := Lib.hid hI6
        clear hle hlm hnw hP9 hP8 hP6 hI6
        go_wp2_with fail
        go_quiet ((first | (go_at_call 20; exact Calls.quiet_of_same (HNW.out _)) | (go_at_call 18; exact Calls.quiet_of_same (HLE.out _)) | (go_at_call 28; exact Calls.quiet_of_same (HLM.out _))))
        go_wp2_with fail
        go_roundw
        case rel => exact ⟨I + 1, s6, _, _, by omega, by omega, by simp, HP9.out.below (bl_drewN (Below.refl _ _) _), HI6.out⟩
        case measure => simp [intOf]; omega
      by_cases q2 : K = 2
      · subst q2
        have y2 := cell_of_blk hbx 2
        have hl5 : ∀ i, (s.lim i).length ≤ 500 := fun i => by have := HI.out.lim i; omega
        have HL5 := Lib.hid hl5
        clear hl5
        go_wp2_with fail
        refine (e_retire hP4 a x 0 HL5.out).mono ?_
        rintro e w5 ⟨rfl, ho5, lv5, hP5⟩
        have hbx5 := ho5.block hbx (hP4.ep.not_own hbx (by decide) (by decide))
        have y5 := cell_of_blk hbx5 2
        clear hbx5 ho5 y2 hbx
        go_wp2_with fail
        refine (m_retire hP5 a x 0 HL5.out).mono ?_
        rintro e w6 ⟨rfl, mv6, hP6⟩
        have hI6 := HI.out.retires a x 0
        generalize retB n a = B at *
        generalize retS n s a x 0 = s6 at *
        clear hP4 hP5 HI y5 HL5
        go_wp2_with fail
        refine (e_pinned hP6 a).mono ?_
        rintro e w8 ⟨rfl, hP8⟩
        go_wp2_with fail
        refine (m_pinned hP8 hI6.pin a).mono ?_
        rintro e w9 ⟨rfl, hP9⟩
        have hle := fun q => e_limbo hP9 a q
        have hlm := fun q => m_limbo hP9 a q
        have hnw := fun q => now_p hP9.ep q
        have hcn := hP9.mo.c0
        have hm0 : (s6.now : Int) ≤ 61 := by have := hI6.now; omega
        generalize limboI n s6 a = Lb at *
        generalize pinnedI n s6 a = Pn at *
        generalize unpinB n s6 a = U at *
        have HLE := Lib.hid hle
        have HLM := Lib.hid hlm
        have HNW := Lib.hid hnw
        have HP9 := Lib.hid hP9
        have HI6 := Lib.hid hI6
        clear hle hlm hnw hP9 hP8 hP6 hI6
        go_wp2_with fail
        go_quiet ((first | (go_at_call 20; exact Calls.quiet_of_same (HNW.out _)) | (go_at_call 18; exact Calls.quiet_of_same (HLE.out _)) | (go_at_call 28; exact Calls.quiet_of_same (HLM.out _))))
        go_wp2_with fail
        go_roundw
        case rel => exact ⟨I + 1, s6, _, _, by omega, by omega, by simp, HP9.out.below (bl_drewN (Below.refl _ _) _), HI6.out⟩
        case measure => simp [intOf]; omega
      by_cases q5 : K = 5
      · subst q5
        have hl5 : ∀ i, (s.lim i).length ≤ 500 := fun i => by have := HI.out.lim i; omega
        have HL5 := Lib.hid hl5
        clear hl5 hbx
        have hn5 : s.now ≤ 1000000 := by have := HI.out.now; omega
        obtain ⟨T, hT⟩ : ∃ T, ripeT n s a = T := ⟨_, rfl⟩
        have hTl : T.length ≤ 1000000 := by have := ripeT_len HI.out a; rw [hT] at this; omega
        have HT := Lib.hid hT
        clear hT
        go_wp2_with fail
        refine (e_ripe hP4 a hn5 HL5.out T HT.out).mono ?_
        rintro e w5 ⟨A5, c5, lv5, rfl, hr5, hno5, hP5⟩
        have HNO := Lib.hid hno5
        clear hno5
        go_wp2_with fail
        refine (m_ripe hP5 a hn5 HL5.out T HT.out).mono ?_
        rintro e w6 ⟨A6, c6, mv6, rfl, hr6, ho6, hP6⟩
        have hr56 := hr5.kept ho6 (fun g hg hm => by
          subst hg
          exact HNO.out g rfl hm)
        have HR5 := Lib.hid hr56
        have HR6 := Lib.hid hr6
        clear hr5 hr6 hr56 ho6 HNO
        go_wp2_with fail
        refine (same_yes HR5.out HR6.out hTl).mono ?_
        rintro e w7 ⟨rfl, q, rfl⟩
        have hP7 := hP6.below (bl_drewN (Below.refl _ w6) q)
        have hI6 := HI.out.ripes a
        generalize ripeS n s a = s6 at *
        clear hP6
        have hP6 := hP7
        generalize w6.drewN q = w7 at *
        clear hP4 hP5 HI HL5 HR5 HR6 HT hP7 hTl hn5
        go_wp2_with fail
        refine (e_pinned hP6 a).mono ?_
        rintro e w8 ⟨rfl, hP8⟩
        go_wp2_with fail
        refine (m_pinned hP8 hI6.pin a).mono ?_
        rintro e w9 ⟨rfl, hP9⟩
        have hle := fun q => e_limbo hP9 a q
        have hlm := fun q => m_limbo hP9 a q
        have hnw := fun q => now_p hP9.ep q
        have hcn := hP9.mo.c0
        have hm0 : (s6.now : Int) ≤ 61 := by have := hI6.now; omega
        generalize limboI n s6 a = Lb at *
        generalize pinnedI n s6 a = Pn at *
        generalize unpinB n s6 a = U at *
        have HLE := Lib.hid hle
        have HLM := Lib.hid hlm
        have HNW := Lib.hid hnw
        have HP9 := Lib.hid hP9
        have HI6 := Lib.hid hI6
        clear hle hlm hnw hP9 hP8 hP6 hI6
        go_wp2_with fail
        go_quiet ((first | (go_at_call 20; exact Calls.quiet_of_same (HNW.out _)) | (go_at_call 18; exact Calls.quiet_of_same (HLE.out _)) | (go_at_call 28; exact Calls.quiet_of_same (HLM.out _))))
        go_wp2_with fail
        go_roundw
        case rel => exact ⟨I + 1, s6, _, _, by omega, by omega, by simp, HP9.out.below (bl_drewN (Below.refl _ _) _), HI6.out⟩
        case measure => simp [intOf]; omega
      · have hn5 : s.now ≤ 1000000 := by have := HI.out.now; omega
        go_wp2_with fail
        refine (e_advance hP4 HI.out.pin hn5).mono ?_
        rintro e w5 ⟨rfl, hP5⟩
        go_wp2_with fail
        refine (m_advance hP5 HI.out.pin hn5).mono ?_
        rintro e w6 ⟨rfl, hP6⟩
        have hI6 := HI.out.advances
        generalize (!moBlocked n s) = B at *
        generalize advS n s = s6 at *
        clear hP4 hP5 HI hbx hn5
        go_wp2_with fail
        refine (e_pinned hP6 a).mono ?_
        rintro e w8 ⟨rfl, hP8⟩
        go_wp2_with fail
        refine (m_pinned hP8 hI6.pin a).mono ?_
        rintro e w9 ⟨rfl, hP9⟩
        have hle := fun q => e_limbo hP9 a q
        have hlm := fun q => m_limbo hP9 a q
        have hnw := fun q => now_p hP9.ep q
        have hcn := hP9.mo.c0
        have hm0 : (s6.now : Int) ≤ 61 := by have := hI6.now; omega
        generalize limboI n s6 a = Lb at *
        generalize pinnedI n s6 a = Pn at *
        generalize unpinB n s6 a = U at *
        have HLE := Lib.hid hle
        have HLM := Lib.hid hlm
        have HNW := Lib.hid hnw
        have HP9 := Lib.hid hP9
        have HI6 := Lib.hid hI6
        clear hle hlm hnw hP9 hP8 hP6 hI6
        go_wp2_with fail
        go_quiet ((first | (go_at_call 20; exact Calls.quiet_of_same (HNW.out _)) | (go_at_call 18; exact Calls.quiet_of_same (HLE.out _)) | (go_at_call 28; exact Calls.quiet_of_same (HLM.out _))))
        go_wp2_with fail
        go_roundw
        case rel => exact ⟨I + 1, s6, _, _, by omega, by omega, by simp, HP9.out.below (bl_drewN (Below.refl _ _) _), HI6.out⟩
        case measure => simp [intOf]; omega
    · have hcase : (N : Int) ≤ I ∨ (I : Int) < N ∧ (60 : Int) ≤ I := by omega
      have HP := Lib.hid hP
      clear hP hInv h1
      by_cases g1 : 1 ≤ actors
      · by_cases g2 : actors ≤ 16
        · obtain ⟨m, rfl⟩ : ∃ m : Nat, actors = (m : Int) := ⟨actors.toNat, by omega⟩
          clear HNN
          rcases hcase with h1 | ⟨h1, h2⟩
          all_goals
            go_wp2_with fail
            refine (new_any m _ (by omega) (by omega)).mono ?_
            rintro e w9 ⟨rfl, _, b9⟩
            go_wp2_with fail
            go_ret
            exact ⟨rfl, bl_then HP.out.bel b9⟩
        · have d16 : decide (actors ≤ 16) = false := decide_eq_false g2
          rcases hcase with h1 | ⟨h1, h2⟩
          all_goals
            go_wp2_with fail
            refine (new_bad actors _ (by omega)).mono ?_
            rintro e w9 ⟨rfl, rfl⟩
            go_wp2_with fail
            go_ret
            exact ⟨rfl, HP.out.bel⟩
      · rcases hcase with h1 | ⟨h1, h2⟩
        all_goals
          go_wp2_with fail
          refine (new_bad actors _ (by omega)).mono ?_
          rintro e w9 ⟨rfl, rfl⟩
          go_wp2_with fail
          go_ret
          exact ⟨rfl, HP.out.bel⟩
end Go.Proofs.Ytpklpomajioneaa
