/- Chapter 12: EpochEach's walk. -/
import Derived.Test.YtpklpomajioneaaEach
namespace Go.Proofs.Ytpklpomajioneaa
open Go.RowKit
set_option linter.unusedVariables false
set_option linter.unusedSimpArgs false

theorem limbo_q {w : World} {lo b n : Nat} {s : EpS} {lv : Nat → Value} (h : EpAt w lo b n s lv) {a : Nat} (ha : a < n) : Calls Try.prog 18 #[.pointer (some ⟨b, 0, none⟩), .int .i64 a] w fun e w' => e = .returned (.int .i64 (s.lim a).length) ∧ w' = w := (limbo_any h ha).mono fun _ _ ⟨h1, h2⟩ => ⟨h1, h2.symm⟩
theorem now_q {w : World} {lo b n : Nat} {s : EpS} {lv : Nat → Value} (h : EpAt w lo b n s lv) : Calls Try.prog 20 #[.pointer (some ⟨b, 0, none⟩)] w fun e w' => e = .returned (.int .i64 s.now) ∧ w' = w := (now_any h).mono fun _ _ ⟨h1, h2⟩ => ⟨h1, h2.symm⟩
theorem infoInt : (Try.prog.info? 3).map (fun i => (i.zero, i.size, i.bytes)) = some (some (.int .i64 0), 1, 8) := by kernel_rfl

theorem tail_sum {I : Nat} {s : EpS} {put : Nat → List Nat} {at_ told : Nat → Nat} (h : EachInv I s put at_ told) (hI : I ≤ 1000) (a : Nat) : IntKind.i64.wrap (((put a).length : Int) - (told a : Int)) = ((s.lim a).length : Int) := by
  have h1 := h.limbo a
  have h2 := h.tl a
  have h3 := h.pl a
  exact (IntWalk.i64_in _ (by omega)).trans (by omega)
set_option maxHeartbeats 8000000 in
set_option maxRecDepth 100000 in
theorem each_law (actors : Int) (Aa : Option Addr) (N cap : Nat) (l : List (Int × Int × Int)) (w : World) (ha : -9223372036854775808 ≤ actors ∧ actors ≤ 9223372036854775807) (hrow : RowAt (kPair (kInt .i64) (kPair (kInt .i64) (kInt .i64))) 24 w Aa N l) :
    Calls Try.prog 6 #[.int .i64 actors, .slice Aa N cap] w fun e w' => e = .returned (.bool true) ∧ Below w.heap.size w w' := by
  obtain ⟨n, hn⟩ : ∃ n : Nat, 1 + actors % 5 = (n : Int) := ⟨(1 + actors % 5).toNat, by omega⟩
  have n1 : 1 ≤ n := by omega
  have n5 : n ≤ 5 := by omega
  have hx := hrow.acts
  have hlen := hx.small
  have HX := Lib.hid hx
  have HNN := Lib.hid hn
  clear hrow hx hn
  go_enter Try.func6, Try.ntmps6
  go_wp2_with fail
  refine (awake_any _).mono ?_
  rintro e w1 ⟨rfl, b1⟩
  go_wp2_with fail
  refine (rest_any actors 5 _ (by decide) (by decide)).mono ?_
  rintro e w2 ⟨rfl, rfl⟩
  go_wp2_with fail
  simp only [HNN.out]
  refine (new_any n _ n1 (by omega)).mono ?_
  rintro e w2 ⟨rfl, h2, b2⟩
  go_wp2_with fail
  have hz1 : (w2.alloc (.cells ((List.range 5).map fun _ => Value.slice none 0 0).toArray 51)).heap.size = w2.heap.size + 1 := by simp
  have hz2 : ((w2.alloc (.cells ((List.range 5).map fun _ => Value.slice none 0 0).toArray 51)).alloc (.cells (atCells fun _ => 0).toArray 52)).heap.size = w2.heap.size + 1 + 1 := by simp
  have hW : EachW w (((w2.alloc (.cells ((List.range 5).map fun _ => Value.slice none 0 0).toArray 51)).alloc (.cells (atCells fun _ => 0).toArray 52)).alloc (.cells (pnCells fun _ => 0).toArray 28)) w1.heap.size w2.heap.size (w2.heap.size + 1) (w2.heap.size + 1 + 1) n EpS.zero (fun _ => .slice none 0 0) (fun _ => []) (fun _ => .slice none 0 0) (fun _ => 0) (fun _ => 0) := by
    have hw := Nat.le_trans b1.size b2.size
    refine ⟨(h2.lo b1.size).below0 (bl_alloc (bl_alloc (bl_alloc (Below.refl _ _) _) _) _), alloc_old (alloc_old (alloc_new w2 _) _) _, fun i hi => ⟨rfl, .inl ⟨rfl, rfl⟩⟩, (fun i j k hi hj hij hk => (by cases hk)), ?_, ?_, hw, by omega, by omega, bl_alloc (bl_alloc (bl_alloc (bl_then b1 b2) _) _) _⟩
    · have := alloc_new (w2.alloc (.cells ((List.range 5).map fun _ => Value.slice none 0 0).toArray 51)) (.cells (atCells fun _ => 0).toArray 52)
      rw [hz1] at this
      exact alloc_old this _
    · have := alloc_new ((w2.alloc (.cells ((List.range 5).map fun _ => Value.slice none 0 0).toArray 51)).alloc (.cells (atCells fun _ => 0).toArray 52)) (.cells (pnCells fun _ => 0).toArray 28)
      rw [hz2] at this
      exact this
  have HW := Lib.hid hW
  clear hW h2 b2 b1 hz1 hz2
  generalize w1.heap.size = b at *
  go_loopw [11] (fun i wr => ∃ (I : Nat) (s : EpS) (lv : Nat → Value) (put : Nat → List Nat) (pv : Nat → Value) (at_ told : Nat → Nat), I ≤ N ∧ I ≤ 60 ∧ i = .int .i64 I ∧ EachW w wr b w2.heap.size (w2.heap.size + 1) (w2.heap.size + 1 + 1) n s lv put pv at_ told ∧ EachInv I s put at_ told) (fun i _ => N - (intOf i).toNat)
  case atStart => exact ⟨0, EpS.zero, _, _, _, _, _, Nat.zero_le _, by omega, rfl, HW.out, EachInv.start⟩
  case round =>
    obtain ⟨I, s, lv, put, pv, ate, told, hI, hI2, rfl, hW, hInv⟩ := hrel
    clear HW
    generalize w2.heap.size = P at *
    by_cases h1 : I < N ∧ I < 60
    · obtain ⟨h1, h2⟩ := h1
      obtain ⟨bs, off, k, at_, x, rfl, hli, ⟨hk, ht, hx⟩, hc⟩ := HX.out.at_ h1
      obtain ⟨c0, c1, c2⟩ := hc _ hW.bel
      have HW := Lib.hid hW
      have HI := Lib.hid hInv
      clear hli hc hW hInv
      have d60 : decide ((I : Int) < 60) = true := decide_eq_true (by omega)
      go_wp2_with fail
      refine (rest_any at_ n _ (by omega) (by omega)).mono ?_
      rintro e w4 ⟨rfl, rfl⟩
      obtain ⟨a, ha⟩ : ∃ a : Nat, at_ % (n : Int) = a := ⟨(at_ % n).toNat, by have := Int.emod_nonneg at_ (show (n : Int) ≠ 0 by omega); omega⟩
      have han : a < n := by have := Int.emod_lt_of_pos at_ (show (0 : Int) < n by omega); omega
      simp only [ha]
      clear ha
      have hW4 := HW.out.below (bl_alloc (Below.refl _ wr) (.cells #[.int .i64 k, .int .i64 at_, .int .i64 x] 30))
      go_wp2_with fail
      refine (rest_any k 6 _ (by decide) (by decide)).mono ?_
      rintro e w4 ⟨rfl, rfl⟩
      obtain ⟨K, hK⟩ : ∃ K, k % 6 = K := ⟨_, rfl⟩
      have hK0 : 0 ≤ K := by omega
      have hK6 : K < 6 := by omega
      simp only [hK]
      generalize wr.alloc (.cells #[.int .i64 k, .int .i64 at_, .int .i64 x] 30) = w4 at *
      clear hK c0 c1 c2 HW
      have hnow := HI.out.nw
      have hlm := HI.out.limbo a
      have hpl := HI.out.pl a
      have ia : (a : Int) < 5 := by omega
      by_cases q0 : K = 0
      · subst q0
        go_wp2_with fail
        by_cases hp : s.pin a = -1
        · refine (pin_yes hW4.ep han hp).mono ?_
          rintro e w5 ⟨rfl, h5, o5⟩
          have hW5 := hW4.step h5 (o5.mono (fun k hk => .inl hk))
          have hI5 := (HI.out.pins (upd s.pin a s.now)).later
          obtain ⟨Ap, cp, hpv⟩ := own_form (hW5.pr a (by omega))
          have zp := (cell_of_blk hW5.pb a).trans (rngCells_at _ (show a < 5 by omega))
          rw [hpv] at zp
          have zt := (cell_of_blk hW5.tb a).trans (pnCells_at _ (show a < 5 by omega))
          have sL := tail_sum hI5 (by omega) a
          have HW5 := Lib.hid hW5
          have HI5 := Lib.hid hI5
          have hce := fun q => limbo_q (hW5.ep.drewN q) han
          have HCE := Lib.hid hce
          clear hW5 hI5 hpv hce
          go_wp2_with fail
          go_quiet ((go_at_call 18; exact Calls.quiet_of_same (HCE.out _)))
          go_wp2_with fail
          go_roundw
          case rel => exact ⟨I + 1, _, _, _, _, _, _, by omega, by omega, by simp, HW5.out.below (bl_drewN (Below.refl _ _) _), HI5.out⟩
          case measure => simp [intOf]; omega
        · refine (pin_no hW4.ep han hp).mono ?_
          rintro e w5 ⟨rfl, rfl⟩
          have hW5 := hW4
          have hI5 := HI.out.later
          obtain ⟨Ap, cp, hpv⟩ := own_form (hW5.pr a (by omega))
          have zp := (cell_of_blk hW5.pb a).trans (rngCells_at _ (show a < 5 by omega))
          rw [hpv] at zp
          have zt := (cell_of_blk hW5.tb a).trans (pnCells_at _ (show a < 5 by omega))
          have sL := tail_sum hI5 (by omega) a
          have HW5 := Lib.hid hW5
          have HI5 := Lib.hid hI5
          have hce := fun q => limbo_q (hW5.ep.drewN q) han
          have HCE := Lib.hid hce
          clear hW5 hI5 hpv hce
          go_wp2_with fail
          go_quiet ((go_at_call 18; exact Calls.quiet_of_same (HCE.out _)))
          go_wp2_with fail
          go_roundw
          case rel => exact ⟨I + 1, _, _, _, _, _, _, by omega, by omega, by simp, HW5.out.below (bl_drewN (Below.refl _ _) _), HI5.out⟩
          case measure => simp [intOf]; omega
      by_cases q1 : K = 1
      · subst q1
        go_wp2_with fail
        by_cases hp : s.pin a ≠ -1
        · refine (unpin_yes hW4.ep han hp).mono ?_
          rintro e w5 ⟨rfl, h5, o5⟩
          have hW5 := hW4.step h5 (o5.mono (fun k hk => .inl hk))
          have hI5 := (HI.out.pins (upd s.pin a (-1))).later
          obtain ⟨Ap, cp, hpv⟩ := own_form (hW5.pr a (by omega))
          have zp := (cell_of_blk hW5.pb a).trans (rngCells_at _ (show a < 5 by omega))
          rw [hpv] at zp
          have zt := (cell_of_blk hW5.tb a).trans (pnCells_at _ (show a < 5 by omega))
          have sL := tail_sum hI5 (by omega) a
          have HW5 := Lib.hid hW5
          have HI5 := Lib.hid hI5
          have hce := fun q => limbo_q (hW5.ep.drewN q) han
          have HCE := Lib.hid hce
          clear hW5 hI5 hpv hce
          go_wp2_with fail
          go_quiet ((go_at_call 18; exact Calls.quiet_of_same (HCE.out _)))
          go_wp2_with fail
          go_roundw
          case rel => exact ⟨I + 1, _, _, _, _, _, _, by omega, by omega, by simp, HW5.out.below (bl_drewN (Below.refl _ _) _), HI5.out⟩
          case measure => simp [intOf]; omega
        · refine (unpin_no hW4.ep han (Decidable.not_not.1 hp)).mono ?_
          rintro e w5 ⟨rfl, rfl⟩
          have hW5 := hW4
          have hI5 := HI.out.later
          obtain ⟨Ap, cp, hpv⟩ := own_form (hW5.pr a (by omega))
          have zp := (cell_of_blk hW5.pb a).trans (rngCells_at _ (show a < 5 by omega))
          rw [hpv] at zp
          have zt := (cell_of_blk hW5.tb a).trans (pnCells_at _ (show a < 5 by omega))
          have sL := tail_sum hI5 (by omega) a
          have HW5 := Lib.hid hW5
          have HI5 := Lib.hid hI5
          have hce := fun q => limbo_q (hW5.ep.drewN q) han
          have HCE := Lib.hid hce
          clear hW5 hI5 hpv hce
          go_wp2_with fail
          go_quiet ((go_at_call 18; exact Calls.quiet_of_same (HCE.out _)))
          go_wp2_with fail
          go_roundw
          case rel => exact ⟨I + 1, _, _, _, _, _, _, by omega, by omega, by simp, HW5.out.below (bl_drewN (Below.refl _ _) _), HI5.out⟩
          case measure => simp [intOf]; omega
      by_cases q2 : K = 2
      · subst q2
        go_wp2_with fail
        refine (retire_any hW4.ep han (I : Int) 0 hW4.bel.size (by omega)).mono ?_
        rintro e w6 ⟨rfl, v6, h6, o6, n6⟩
        have hW6 := hW4.step h6 o6
        obtain ⟨Ap, cp, hpv⟩ := own_form (hW6.pr a (by omega))
        have zp := (cell_of_blk hW6.pb a).trans (rngCells_at _ (show a < 5 by omega))
        rw [hpv] at zp
        have fp := free_of_blk hW6.pb a
        have HW6 := Lib.hid hW6
        have HPV := Lib.hid hpv
        obtain ⟨i0, hi, hz0, hz1, hz2⟩ := info_parts infoInt
        have hb7 := bl_alloc (Below.refl _ w6) (.cells #[.int .i64 I] 3)
        have hr7 := (HW6.out.pr a (by omega)).alloc (.cells #[.int .i64 I] 3)
        rw [hpv] at hr7
        have hz7 : w.heap.size ≤ (w6.alloc (.cells #[.int .i64 I] 3)).heap.size := Nat.le_trans HW6.out.bel.size hb7.size
        clear hW6 h6 o6 n6 hW4 hpv
        go_wp2_with (at_builtin; refine wpList_append_lies _ rfl (.tmp 65) (.tmp 67) 40 rfl w.heap.size 3 i0 _ 1 8 Try.underlying40 hi hz0 hz1 hz2 rfl (by decide) (.slice Ap (put a).length cp) (put a).length (natCells (put a)) rfl hr7 ⟨w6.heap.size, 0, none⟩ 1 1 [.int .i64 I] rfl rfl (World.news_of_block (cs := #[.int .i64 I]) (t := 3) (fr := (0, 0)) (alloc_new w6 _)) (by simp [Value.oneCell']) (by decide) (by simp only [maxLen]; omega) (by omega) hz7 _ rfl ?_; intro g cap8 w8 hown8 hgr8 hat8 _; have hp8 := (only_grown (S := fun k => (Value.slice Ap (put a).length cp).ownBlock = some k) (Only.refl _ _) hgr8 (fun k hk => .inl hk)).block (alloc_old HW6.out.pb (.cells #[.int .i64 I] 3)) (fun hk => absurd (own_type hr7 hk (alloc_old HW6.out.pb _)) (by decide)); have zp8 := (cell_of_blk hp8 a).trans (rngCells_at _ (show a < 5 by omega)); have fp8 := free_of_blk hp8 a)
        have hW9 := HW6.out.push hb7 (a := a) (by omega) (x := I) (v := .slice (some ⟨g, 0, none⟩) ((put a).length + 1) cap8) hown8 (by rw [HPV.out]; exact hgr8) (fun k hk => by
          injection hk with hk
          change g = k at hk
          subst hk
          rw [HPV.out]
          rcases hat8 with h1 | h1
          · exact .inl h1
          · exact .inr (Nat.le_of_eq h1.symm))
        have HW9 := Lib.hid hW9
        have zA := (cell_of_blk HW9.out.ab I).trans (atCells_at ate (by omega))
        have fA := free_of_blk HW9.out.ab I
        have iI : (I : Int) < 60 := by omega
        clear hW9 hp8 zp8 fp8 hown8 hgr8 hat8 zp fp hr7
        refine (now_any HW9.out.ep).mono ?_
        rintro e w9 ⟨rfl, rfl⟩
        go_wp2_with fail
        have hW5 := HW9.out.setAt I s.now
        have hI5 := HI.out.retire a
        clear zA fA
        obtain ⟨Ap, cp, hpv⟩ := own_form (hW5.pr a (by omega))
        have zp := (cell_of_blk hW5.pb a).trans (rngCells_at _ (show a < 5 by omega))
        rw [hpv] at zp
        have zt := (cell_of_blk hW5.tb a).trans (pnCells_at _ (show a < 5 by omega))
        have sL := tail_sum hI5 (by omega) a
        have HW5 := Lib.hid hW5
        have HI5 := Lib.hid hI5
        have hce := fun q => limbo_q (hW5.ep.drewN q) han
        have HCE := Lib.hid hce
        clear hW5 hI5 hpv hce
        go_wp2_with fail
        go_quiet ((go_at_call 18; exact Calls.quiet_of_same (HCE.out _)))
        go_wp2_with fail
        go_roundw
        case rel => exact ⟨I + 1, _, _, _, _, _, _, by omega, by omega, by simp, HW5.out.below (bl_drewN (Below.refl _ _) _), HI5.out⟩
        case measure => simp [intOf]; omega
      by_cases q5 : K = 5
      · subst q5
        go_wp2_with fail
        refine (ripe_any hW4.ep han (by omega) (by omega)).mono ?_
        rintro e w5 ⟨A5, c5, v5, rfl, own5, h5, o5, n5'⟩
        have hW5 := hW4.step h5 o5
        obtain ⟨m, hm, hma, hkk, hnext, hI6⟩ := HI.out.ripe a
        have hrefs := RefsAt.of_own own5
        simp only [hm]
        rw [hm] at hrefs
        have hu0 : upd told a (told a + 0) = told := by
          funext i
          unfold upd
          split
          · rename_i h; rw [h]; rfl
          · rfl
        have hW50 := hW5
        rw [← hu0] at hW50
        have HKK := Lib.hid hkk
        have HNX := Lib.hid hnext
        have HI6 := Lib.hid hI6
        have HRF := Lib.hid hrefs
        have HW50 := Lib.hid hW50
        have hLE := fun i hi => (HI.out.le a i hi).2
        have HLE := Lib.hid hLE
        have HNE0 : Hid (∀ x, ¬ A5 = some ⟨P + 1 + 1, 0, x⟩) := Lib.hid (by
          rintro x rfl
          obtain ⟨cs, hc⟩ := own_type' own5 rfl
          have := hW5.tb
          rw [hc] at this
          injection this with this
          injection this with _ h3 _
          exact absurd h3 (by decide))
        clear hW5 hkk hnext hI6 hrefs hu0 hW50 own5 h5 o5 n5' hW4 hm hLE
        go_wp2_with fail
        go_loopw [15] (fun k wr => ∃ Kk : Nat, Kk ≤ m ∧ k = .int .i64 Kk ∧ RefsAt wr A5 m (toldOf s.now (s.lim a)) ∧ Hid (∀ x, ¬ A5 = some ⟨P + 1 + 1, 0, x⟩) ∧ EachW w wr b P (P + 1) (P + 1 + 1) n { s with lim := upd s.lim a (keptOf s.now (s.lim a)) } (upd lv a v5) put pv ate (upd told a (told a + Kk))) (fun k _ => m - (intOf k).toNat)
        case atStart => exact ⟨0, Nat.zero_le _, rfl, HRF.out, HNE0, HW50.out⟩
        case round =>
          obtain ⟨Kk, hKm, rfl, hRF, HNE, hW6⟩ := hrel
          obtain ⟨Ap, cp, hpv⟩ := own_form (hW6.pr a (by omega))
          have zp := (cell_of_blk hW6.pb a).trans (rngCells_at _ (show a < 5 by omega))
          rw [hpv] at zp
          have zt := (cell_of_blk hW6.tb a).trans (pnCells_at _ (show a < 5 by omega))
          rw [upd_same] at zt
          have ft := free_of_blk hW6.tb a
          have s2 : IntKind.i64.wrap ((s.now : Int) - 2) = (s.now : Int) - 2 := IntWalk.i64_in _ (by omega)
          have hrow := hW6.pr a (by omega)
          rw [hpv] at hrow
          have hpl := HI.out.pl a
          have hcn := fun q => now_q (hW6.ep.drewN q)
          have HCN := Lib.hid hcn
          have HW6 := Lib.hid hW6
          clear hcn hpv
          by_cases g1 : Kk < m
          · obtain ⟨i, hi1, hi2, hi3⟩ := HKK.out Kk g1
            obtain ⟨g5, rfl, _, hc5⟩ := hRF.cells (by omega)
            obtain ⟨r, hr, x0, x1⟩ := hc5 Kk g1
            rw [hi2] at hr
            injection hr with hr
            subst hr
            have hi60 : i < 60 := by have := HLE.out i (List.mem_of_getElem? hi1); omega
            have zA := (cell_of_blk HW6.out.ab i).trans (atCells_at ate hi60)
            obtain ⟨gp, rfl, _, _, _, hcp⟩ := own_some hrow (by omega)
            have zi : wr.cell? ⟨gp, told a + Kk, none⟩ = some (.int .i64 i) := hcp _ _ (by simp [natCells, hi1])
            have ii : (i : Int) < 60 := by omega
            have d1n : decide ((put a).length ≤ told a + Kk) = false := decide_eq_false (by omega)
            have d1m : decide (told a + Kk < (put a).length) = true := decide_eq_true (by omega)
            have htk60 : told a + Kk ≤ 60 := by omega
            have hupd : upd (upd told a (told a + Kk)) a (told a + Kk + 1) = upd told a (told a + (Kk + 1)) := by
              funext j
              unfold upd
              split <;> rfl
            have HUPD := Lib.hid hupd
            clear hupd hW6
            have d1 : decide (((put a).length : Int) ≤ ((told a + Kk : Nat) : Int)) = false := decide_eq_false (by omega)
            have d3 : decide ((s.now : Int) - 2 < (ate i : Int)) = false := decide_eq_false (by omega)
            have d1' : decide (((told a + Kk : Nat) : Int) ≥ ((put a).length : Int)) = false := decide_eq_false (by omega)
            have d1'' : decide (((told a + Kk : Nat) : Int) < ((put a).length : Int)) = true := decide_eq_true (by omega)
            have d3' : decide ((ate i : Int) > (s.now : Int) - 2) = false := decide_eq_false (by omega)
            have d3'' : decide ((ate i : Int) ≤ (s.now : Int) - 2) = true := decide_eq_true (by omega)
            have hlt3 : ((told a + Kk : Nat) : Int) < (put a).length := by omega
            have HRF2 := Lib.hid hRF
            clear hi1 hi2 hi3 hc5 hcp hrow hRF x1
            generalize htk : told a + Kk = tk at *
            have HTK := Lib.hid htk
            clear htk
            go_wp2_with fail
            go_quiet ((go_at_call 20; exact Calls.quiet_of_same (HCN.out _)))
            have HW7 := Lib.hid (HW6.out.below (bl_drewN (Below.refl _ wr) nq))
            have HRF7 := Lib.hid (HRF2.out.below (bl_drewN (Below.refl _ wr) nq))
            have zt7 : (wr.drewN nq).cell? ⟨P + 1 + 1, a, none⟩ = some (.int .i64 tk) := zt
            have ft7 : (wr.drewN nq).frozen? ⟨P + 1 + 1, a, none⟩ = false := ft
            generalize wr.drewN nq = w7 at *
            go_wp2_with fail
            go_roundw
            case rel =>
              have hs := HW7.out.setTold a (tk + 1)
              rw [HUPD.out] at hs
              exact ⟨Kk + 1, by omega, by simp, HRF7.out.kept (S := fun k => k = P + 1 + 1) ((Only.refl (fun k => k = P + 1 + 1) w7).setCell _ _ (.inl rfl)) (by rintro g hg rfl; exact absurd hg (HNE.out _)), HNE, hs⟩
            case measure => simp [intOf]; omega
          · obtain rfl : Kk = m := by omega
            clear g1
            by_cases g2 : told a + Kk < (put a).length
            · obtain ⟨i, hi1⟩ : ∃ i, (put a)[told a + Kk]? = some i := ⟨_, List.getElem?_eq_getElem g2⟩
              have hi3 := HNX.out i hi1
              have hi60 : i < 60 := by have := HLE.out i (List.mem_of_getElem? hi1); omega
              have zA := (cell_of_blk HW6.out.ab i).trans (atCells_at ate hi60)
              obtain ⟨gp, rfl, _, _, _, hcp⟩ := own_some hrow (by omega)
              have zi : wr.cell? ⟨gp, told a + Kk, none⟩ = some (.int .i64 i) := hcp _ _ (by simp [natCells, hi1])
              have ii : (i : Int) < 60 := by omega
              have d1n : decide ((put a).length ≤ told a + Kk) = false := decide_eq_false (by omega)
              have d1m : decide (told a + Kk < (put a).length) = true := decide_eq_true (by omega)
              have d3 : decide ((ate i : Int) ≤ (s.now : Int) - 2) = false := decide_eq_false (by omega)
              have hlt3 : ((told a + Kk : Nat) : Int) < (put a).length := by omega
              clear hi1 hi3 hcp hrow hRF
              generalize htk : told a + Kk = tk at *
              go_wp2_with fail
              go_quiet ((go_at_call 20; exact Calls.quiet_of_same (HCN.out _)))
              have hW5 := HW6.out.below (bl_drewN (Below.refl _ wr) nq)
              have hI5 := HI6.out.later
              clear zp zt zi zA HCN
              generalize wr.drewN nq = w7 at *
              obtain ⟨Ap, cp, hpv⟩ := own_form (hW5.pr a (by omega))
              have zp := (cell_of_blk hW5.pb a).trans (rngCells_at _ (show a < 5 by omega))
              rw [hpv] at zp
              have zt := (cell_of_blk hW5.tb a).trans (pnCells_at _ (show a < 5 by omega))
              have sL := tail_sum hI5 (by omega) a
              have HW5 := Lib.hid hW5
              have HI5 := Lib.hid hI5
              have hce := fun q => limbo_q (hW5.ep.drewN q) han
              have HCE := Lib.hid hce
              clear hW5 hI5 hpv hce
              go_wp2_with fail
              go_quiet ((go_at_call 18; exact Calls.quiet_of_same (HCE.out _)))
              go_wp2_with fail
              go_roundw
              case rel => exact ⟨I + 1, _, _, _, _, _, _, by omega, by omega, by simp, HW5.out.below (bl_drewN (Below.refl _ _) _), HI5.out⟩
              case measure => simp [intOf]; omega
            · have d1n : decide ((put a).length ≤ told a + Kk) = true := decide_eq_true (by omega)
              have d1m : decide (told a + Kk < (put a).length) = false := decide_eq_false (by omega)
              clear hrow hRF
              generalize htk : told a + Kk = tk at *
              go_wp2_with fail
              go_quiet ((go_at_call 20; exact Calls.quiet_of_same (HCN.out _)))
              have hW5 := HW6.out.below (bl_drewN (Below.refl _ wr) nq)
              have hI5 := HI6.out.later
              clear zp zt HCN
              generalize wr.drewN nq = w7 at *
              obtain ⟨Ap, cp, hpv⟩ := own_form (hW5.pr a (by omega))
              have zp := (cell_of_blk hW5.pb a).trans (rngCells_at _ (show a < 5 by omega))
              rw [hpv] at zp
              have zt := (cell_of_blk hW5.tb a).trans (pnCells_at _ (show a < 5 by omega))
              have sL := tail_sum hI5 (by omega) a
              have HW5 := Lib.hid hW5
              have HI5 := Lib.hid hI5
              have hce := fun q => limbo_q (hW5.ep.drewN q) han
              have HCE := Lib.hid hce
              clear hW5 hI5 hpv hce
              go_wp2_with fail
              go_quiet ((go_at_call 18; exact Calls.quiet_of_same (HCE.out _)))
              go_wp2_with fail
              go_roundw
              case rel => exact ⟨I + 1, _, _, _, _, _, _, by omega, by omega, by simp, HW5.out.below (bl_drewN (Below.refl _ _) _), HI5.out⟩
              case measure => simp [intOf]; omega
      · go_wp2_with fail
        cases hb : s.blocked
        · refine (advance_yes hW4.ep (by omega) hb).mono ?_
          rintro e w5 ⟨rfl, h5, o5⟩
          have hW5 := hW4.step h5 (o5.mono (fun k hk => .inl hk))
          have hI5 := HI.out.advance
          obtain ⟨Ap, cp, hpv⟩ := own_form (hW5.pr a (by omega))
          have zp := (cell_of_blk hW5.pb a).trans (rngCells_at _ (show a < 5 by omega))
          rw [hpv] at zp
          have zt := (cell_of_blk hW5.tb a).trans (pnCells_at _ (show a < 5 by omega))
          have sL := tail_sum hI5 (by omega) a
          have HW5 := Lib.hid hW5
          have HI5 := Lib.hid hI5
          have hce := fun q => limbo_q (hW5.ep.drewN q) han
          have HCE := Lib.hid hce
          clear hW5 hI5 hpv hce
          go_wp2_with fail
          go_quiet ((go_at_call 18; exact Calls.quiet_of_same (HCE.out _)))
          go_wp2_with fail
          go_roundw
          case rel => exact ⟨I + 1, _, _, _, _, _, _, by omega, by omega, by simp, HW5.out.below (bl_drewN (Below.refl _ _) _), HI5.out⟩
          case measure => simp [intOf]; omega
        · refine (advance_no hW4.ep (by omega) hb).mono ?_
          rintro e w5 ⟨rfl, b5⟩
          have hW5 := hW4.below b5
          have hI5 := HI.out.later
          obtain ⟨Ap, cp, hpv⟩ := own_form (hW5.pr a (by omega))
          have zp := (cell_of_blk hW5.pb a).trans (rngCells_at _ (show a < 5 by omega))
          rw [hpv] at zp
          have zt := (cell_of_blk hW5.tb a).trans (pnCells_at _ (show a < 5 by omega))
          have sL := tail_sum hI5 (by omega) a
          have HW5 := Lib.hid hW5
          have HI5 := Lib.hid hI5
          have hce := fun q => limbo_q (hW5.ep.drewN q) han
          have HCE := Lib.hid hce
          clear hW5 hI5 hpv hce
          go_wp2_with fail
          go_quiet ((go_at_call 18; exact Calls.quiet_of_same (HCE.out _)))
          go_wp2_with fail
          go_roundw
          case rel => exact ⟨I + 1, _, _, _, _, _, _, by omega, by omega, by simp, HW5.out.below (bl_drewN (Below.refl _ _) _), HI5.out⟩
          case measure => simp [intOf]; omega
    · have hcase : (N : Int) ≤ I ∨ (I : Int) < N ∧ (60 : Int) ≤ I := by omega
      have HW := Lib.hid hW
      clear hW hInv h1
      rcases hcase with h1 | ⟨h1, h2⟩
      all_goals
        go_wp2_with fail
        go_ret
        exact ⟨rfl, HW.out.bel⟩
end Go.Proofs.Ytpklpomajioneaa
