/- The law RingPlays: its walk. -/
import Derived.Test.YthjcomekfiibnaaPlaysPure
import Derived.Test.YthjcomekfiibnaaRead
import Derived.Test.YthjcomekfiibnaaBoundW
import Derived.Deep.DeepCutAuto
import Derived.Deep.CutBlock
import Derived.Deep.RegionHeld3
namespace Go.Proofs.Ythjcomekfiibnaa
open Go.RowKit
set_option linter.unusedVariables false

theorem same_eq (w : World) (lo lo' : Nat) (a b : Option Addr) (n c c' : Nat) (l : List (Int × Int)) (ha : PairsAt w lo a n l) (hb : PairsAt w lo' b n l) (hn : n ≤ 4096) :
    Calls Try.prog 16 #[.slice a n c, .slice b n c'] w fun e w' => e = .returned (.bool true) ∧ ∃ j, w' = w.drewN j :=
  (same_any w lo lo' a b n n c c' l l ha hb hn hn).mono fun e w' ⟨h1, h2⟩ => ⟨by rw [h1]; simp, h2⟩
theorem low_any' {w : World} {R B n : Nat} {low : Int} {ps : List (Int × Bool)} (h : RingAt w R B n low ps) :
    Calls Try.prog 18 #[.pointer (some ⟨R, 0, none⟩)] w fun e w' => e = .returned (.int .i64 low) ∧ w = w' :=
  (low_same h).mono fun e w' ⟨h1, h2⟩ => ⟨h1, h2.symm⟩

set_option maxHeartbeats 4000000 in
set_option maxRecDepth 100000 in
theorem plays_law (size : Int) (a : Option Addr) (len cap : Nat) (l : List (Int × Int × Int)) (ask : Int) (w : World) (hsz : -9223372036854775808 ≤ size ∧ size ≤ 9223372036854775807) (hrow : RowAt (kPair (kInt .i64) (kPair (kInt .i64) (kInt .i64))) 24 w a len l) (hask : -9223372036854775808 ≤ ask ∧ ask ≤ 9223372036854775807) :
    Calls Try.prog 3 #[.int .i64 size, .slice a len cap, .int .i64 ask] w fun e w' => e = .returned (.bool true) ∧ Below w.heap.size w w' := by
  obtain ⟨n, hn⟩ : ∃ n : Nat, 1 + size % 9 = (n : Int) := ⟨(1 + size % 9).toNat, by omega⟩
  have n1 : 1 ≤ n := by omega
  have n2 : n ≤ 9 := by omega
  have hx := hrow.acts
  clear hrow
  have hlen := hx.small
  have HX := Lib.hid hx
  have HN := Lib.hid hn
  clear hx
  have b1 : 0 ≤ size % 9 := by omega
  have b2 : size % 9 ≤ 8 := by omega
  clear hn
  go_enter Try.func3, Try.ntmps3
  go_wp2_with fail
  refine (awake_any _).mono ?_
  rintro e w1 ⟨rfl, hb1⟩
  go_wp2_with fail
  refine (rest_any _ _ _ (by decide) (by decide)).mono ?_
  rintro e w' ⟨rfl, rfl⟩
  go_wp2_with fail
  rw [HN.out]
  refine (new_yes n _ (by omega) (by omega)).mono ?_
  rintro e w2 ⟨rfl, hr2, hb2, hz2⟩
  have hb3 := bl_then hb1 hb2
  have hs1 := hb1.size
  have hs2 := hb2.size
  go_wp2_with fail
  obtain ⟨R, hR⟩ : ∃ R, R = w1.heap.size + 1 := ⟨_, rfl⟩
  obtain ⟨B, hB⟩ : ∃ B, B = w1.heap.size := ⟨_, rfl⟩
  obtain ⟨M, hM⟩ : ∃ M, M = w1.heap.size + 2 := ⟨_, rfl⟩
  have hr3 : RingAt (w2.alloc (.cells #[.int .i64 n, .int .i64 0, .slice none 0 0] 30)) R B n 0 (List.replicate n (0, false)) := by
    rw [hR, hB]; exact hr2.kept (S := fun _ => False) ((Only.refl _ _).alloc _) id id
  have hf3 : ∃ A c, RefAt (w2.alloc (.cells #[.int .i64 n, .int .i64 0, .slice none 0 0] 30)) M M n 0 (ringTo (List.replicate n (0, false)) 0 n) A c := by
    have e0 : ringTo (List.replicate n (0, false)) 0 n = [] := by
      rw [ringTo_view]
      refine view_empty fun a h1 h2 => ?_
      unfold ringGet
      split
      · rw [List.getD_eq_getElem?_getD, List.getElem?_replicate]; split <;> rfl
      · rfl
    rw [e0]
    refine ⟨none, 0, ?_, ⟨rfl, .inl ⟨rfl, rfl⟩⟩, Nat.le_refl _, fun a h => by cases h⟩
    rw [hM, ← hz2]
    exact alloc_new _ _
  have hb4 := bl_alloc hb3 (.cells #[.int .i64 n, .int .i64 0, .slice none 0 0] 30)
  have hz4 := ringZ_new n
  rw [← hR, ← hM]
  have hRw : w.heap.size ≤ R := by omega
  have hBw : w.heap.size ≤ B := by omega
  have hMw : w.heap.size ≤ M := by omega
  have hRM : R < M := by omega
  have hBM : B < M := by omega
  generalize w2.alloc (.cells #[.int .i64 n, .int .i64 0, .slice none 0 0] 30) = w3 at *
  clear hz2 hb2 hR hB hM hs1 hs2 hb1 hb3 hr2
  go_loopw [11] (fun i wr => ∃ I : Nat, I ≤ len ∧ I ≤ 60 ∧ i = .int .i64 I ∧ Below w.heap.size w wr ∧ ∃ low ps, RingAt wr R B n low ps ∧ low ≤ I ∧ RingZ ps ∧ ∃ A c, RefAt wr M M n low (ringTo ps low n) A c) (fun i _ => len - (intOf i).toNat)
  case atStart => exact ⟨0, Nat.zero_le _, by omega, rfl, hb4, _, _, hr3, by omega, hz4, hf3⟩
  case round =>
    obtain ⟨I, hI, hI2, rfl, hb, low, ps, hr, hlow, hz, A, c, hf⟩ := hrel
    clear hb4 hr3 hf3 hz4
    by_cases h1 : I < len ∧ I < 60
    · obtain ⟨h1, h2⟩ := h1
      obtain ⟨b, off, k, at_, x, rfl, _, ⟨hk, hat, hxx⟩, hcs⟩ := HX.out.at_ h1
      obtain ⟨c0, c1, c2⟩ := hcs _ hb
      clear hcs
      go_upto_block 2 with fail
      have ha : Only (fun _ => False) wr (wr.alloc (.cells #[.int .i64 k, .int .i64 at_, .int .i64 x] 32)) := (Only.refl _ _).alloc _
      have hr4 := hr.kept ha id id
      have hf4 := hf.kept ha (fun _ h => h.elim)
      have hsb := alloc_new wr (.cells #[.int .i64 k, .int .i64 at_, .int .i64 x] 32 (0, 0))
      have hb4 := bl_alloc hb (.cells #[.int .i64 k, .int .i64 at_, .int .i64 x] 32)
      have lM := block_lt hf.hM
      obtain ⟨bs, hbs⟩ : ∃ bs, wr.heap.size = bs := ⟨_, rfl⟩
      rw [hbs] at hsb lM
      have hbw : w.heap.size ≤ bs := by rw [← hbs]; exact hb.size
      rw [hbs]
      generalize wr.alloc (.cells #[.int .i64 k, .int .i64 at_, .int .i64 x] 32) = w4 at *
      clear hbs ha hf hr hb c0 c1 c2
      refine (rest_any _ _ _ (by decide) (by decide)).mono ?_
      rintro e w' ⟨rfl, rfl⟩
      go_upto_block 2 with fail
      go_cut [] (fun wx => ∃ low' ps', RingAt wx R B n low' ps' ∧ low' ≤ I + 1 ∧ RingZ ps' ∧ (∃ A' c', RefAt wx M M n low' (ringTo ps' low' n) A' c') ∧ Below w.heap.size w wx ∧ wx.heap[bs]? = some (.cells #[.int .i64 k, .int .i64 at_, .int .i64 x] 32 (0, 0)))
      case first =>
        have n3 := hr4.len
        have l0 := hr4.low0
        have l1 := hr4.low1
        by_cases hk2 : k % 4 = 2
        · have d1 : (k % 4 == 2) = true := by rw [hk2]; rfl
          cases hd : ringDrops ps low
          · clear hk2
            go_wp2_with fail
            refine (drop_to hr4 false hd 0 rfl low rfl ps rfl).mono ?_
            rintro e w5 ⟨rfl, hr5, ho5, _⟩
            have hb5 := bl_only hb4 ho5 (by rintro i (rfl | rfl) <;> omega)
            have hf5 := hf4.kept ho5 (by rintro i (rfl | rfl) <;> omega)
            have hsb5 := ho5.block hsb (by rintro (h | h) <;> omega)
            clear ho5 hb4 hf4 hr4 hsb
            go_wp2_with fail
            refine (refdrop_no hf5 (plays_drop_no (by omega) hd)).mono ?_
            rintro e w6 ⟨rfl, j, rfl⟩
            go_wp2_with fail
            go_meet
            case rel => exact ⟨low, ps, hr5.drewN j, by omega, hz, ⟨_, _, hf5.drewN j⟩, bl_drewN hb5 j, hsb5⟩
          · have hdv := plays_drop n3 (by omega) hd
            have hz5 : RingZ (ringDrop ps low) := ringZ_set hz _ _ (fun _ => rfl)
            have hlen5 : (ringTo (ringDrop ps low) (low + 1) n).length ≤ n := ringTo_length _ _ _
            have l2 : low < 4611686018427387904 := by
              simp only [ringDrops, Bool.and_eq_true, decide_eq_true_eq] at hd
              exact hd.2
            clear hk2
            go_wp2_with fail
            refine (drop_to hr4 true hd _ rfl _ rfl _ rfl).mono ?_
            rintro e w5 ⟨rfl, hr5, ho5, _⟩
            simp only [if_true] at hr5 ⊢
            have hb5 := bl_only hb4 ho5 (by rintro i (rfl | rfl) <;> omega)
            have hf5 := hf4.kept ho5 (by rintro i (rfl | rfl) <;> omega)
            have hsb5 := ho5.block hsb (by rintro (h | h) <;> omega)
            rw [hdv] at hf5
            generalize (ringGet ps low low).1 = y at *
            clear ho5 hb4 hf4 hr4 hsb hdv hd
            go_wp2_with fail
            refine (refdrop_yes hf5 l0 (by omega) (by omega)).mono ?_
            rintro e w6 ⟨rfl, hf6, ho6⟩
            have hr6 := hr5.kept ho6 (by omega) (by omega)
            have hb6 := bl_only hb5 ho6 (by rintro i rfl; omega)
            have hsb6 := ho6.block hsb5 (by omega)
            clear ho6 hb5 hf5 hr5 hsb5
            go_wp2_with fail
            go_meet
            case rel => exact ⟨low + 1, _, hr6, by omega, hz5, hf6, hb6, hsb6⟩
        · have d1 : (k % 4 == 2) = false := by simpa using hk2
          by_cases hk3 : k % 4 = 3
          · have d2 : (k % 4 == 3) = true := by rw [hk3]; rfl
            have c1 : w4.cell? ⟨bs, 1, none⟩ = some (.int .i64 at_) := by simp [World.cell?, hsb]
            have c2 : w4.cell? ⟨bs, 2, none⟩ = some (.int .i64 x) := by simp [World.cell?, hsb]
            clear hk2 hk3
            go_wp2_with fail
            have hr4d : RingAt w4.drew R B n low ps := hr4.drewN 1
            have hf4d : RefAt w4.drew M M n low (ringTo ps low n) A c := hf4.drewN 1
            have hb4d : Below w.heap.size w w4.drew := bl_drew hb4
            have hsbd : w4.drew.heap[bs]? = some (.cells #[.int .i64 k, .int .i64 at_, .int .i64 x] 32 (0, 0)) := hsb
            have hlen4 : (ringTo ps low n).length ≤ n := ringTo_length _ _ _
            cases hok : ringOk ps low at_
            · have hno : ¬ (low ≤ at_ ∧ at_ - low < n ∧ refHas (ringTo ps low n) at_ = false) := fun h => by have := (plays_ok n3 hz at_).2 h; rw [hok] at this; cases this
              go_region_held3 (fun w' => w'.cell? ⟨bs, 1, none⟩ = some (.int .i64 at_) ∧ w'.cell? ⟨bs, 2, none⟩ = some (.int .i64 x)) (first | exact ⟨c1, c2⟩ | exact ⟨c15, c25⟩ | exact ⟨c16, c26⟩) (first
                | (go_at_call 12; refine (put_to hr4d x at_ (by omega) false hok ps rfl).mono ?_; rintro e w5 ⟨rfl, hr5, ho5, _⟩; have hf5 := hf4d.kept ho5 (by rintro i (rfl | rfl) <;> omega); have hb5 := bl_only hb4d ho5 (by rintro i (rfl | rfl) <;> omega); have hsb5 := ho5.block hsbd (by rintro (h | h) <;> omega); have c15 : w5.cell? ⟨bs, 1, none⟩ = some (.int .i64 at_) := cell_of_blk hsb5 1; have c25 : w5.cell? ⟨bs, 2, none⟩ = some (.int .i64 x) := cell_of_blk hsb5 2)
                | (go_at_call 13; refine (refput_no hf5 at_ x (by omega) l0 (by omega) (by omega) hno).mono ?_; rintro e w6 ⟨rfl, j, rfl⟩; have c16 : (w5.drewN j).cell? ⟨bs, 1, none⟩ = some (.int .i64 at_) := c15; have c26 : (w5.drewN j).cell? ⟨bs, 2, none⟩ = some (.int .i64 x) := c25))
              go_wp2_with fail
              go_meet
              case rel => exact ⟨low, ps, hr5.drewN j, by omega, hz, ⟨_, _, hf5.drewN j⟩, bl_drewN hb5 j, hsb5⟩
            · have hyes := (plays_ok n3 hz at_).1 hok
              have hpv := plays_put n3 hz hok x
              have hz5 : RingZ (ringPut ps at_ x) := ringZ_set hz _ _ (fun h => by cases h)
              go_region_held3 (fun w' => w'.cell? ⟨bs, 1, none⟩ = some (.int .i64 at_) ∧ w'.cell? ⟨bs, 2, none⟩ = some (.int .i64 x)) (first | exact ⟨c1, c2⟩ | exact ⟨c15, c25⟩ | exact ⟨c16, c26⟩) (first
                | (go_at_call 12; refine (put_to hr4d x at_ (by omega) true hok _ rfl).mono ?_; rintro e w5 ⟨rfl, hr5, ho5, _⟩; have hf5 := hf4d.kept ho5 (by rintro i (rfl | rfl) <;> omega); have hb5 := bl_only hb4d ho5 (by rintro i (rfl | rfl) <;> omega); have hsb5 := ho5.block hsbd (by rintro (h | h) <;> omega); have c15 : w5.cell? ⟨bs, 1, none⟩ = some (.int .i64 at_) := cell_of_blk hsb5 1; have c25 : w5.cell? ⟨bs, 2, none⟩ = some (.int .i64 x) := cell_of_blk hsb5 2)
                | (go_at_call 13; refine (refput_yes hf5 at_ x (by omega) l0 (by omega) (by omega) hyes.1 hyes.2.1 hyes.2.2).mono ?_; rintro e w6 ⟨rfl, hf6, ho6⟩; have hr6 := hr5.kept ho6 (by omega) (by omega); have hb6 := bl_only hb5 ho6 (by rintro i rfl; omega); have hsb6 := ho6.block hsb5 (by omega); have c16 : w6.cell? ⟨bs, 1, none⟩ = some (.int .i64 at_) := cell_of_blk hsb6 1; have c26 : w6.cell? ⟨bs, 2, none⟩ = some (.int .i64 x) := cell_of_blk hsb6 2))
              go_wp2_with fail
              go_meet
              case rel => exact ⟨low, ringPut ps at_ x, hr6, by omega, hz5, by rw [hpv]; exact hf6, hb6, hsb6⟩
          · have d2 : (k % 4 == 3) = false := by simpa using hk3
            have c1 : w4.cell? ⟨bs, 1, none⟩ = some (.int .i64 at_) := by simp [World.cell?, hsb]
            have c2 : w4.cell? ⟨bs, 2, none⟩ = some (.int .i64 x) := by simp [World.cell?, hsb]
            have m1 := hf4.c1
            have t1 : 0 ≤ at_ % 12 := by omega
            have t2 : at_ % 12 < 12 := by omega
            have s1 : IntKind.i64.wrap (low + at_ % 12) = low + at_ % 12 := IntWalk.i64_in _ (by omega)
            have s2 : IntKind.i64.wrap (low + at_ % 12 - 2) = low + at_ % 12 - 2 := IntWalk.i64_in _ (by omega)
            clear hk2 hk3
            go_wp2_with fail
            go_quiet ((go_at_call 8; exact Calls.quiet_of_same (rest_same at_ 12 _ (by decide) (by decide))))
            have hr4 := hr4.drewN nq
            have hf4 := hf4.drewN nq
            have hb4 := bl_drewN hb4 nq
            have hsb : (w4.drewN nq).heap[bs]? = _ := hsb
            clear c1 c2 m1 s1 s2
            generalize w4.drewN nq = w4 at *
            have c1 : w4.cell? ⟨bs, 1, none⟩ = some (.int .i64 at_) := by simp [World.cell?, hsb]
            have c2 : w4.cell? ⟨bs, 2, none⟩ = some (.int .i64 x) := by simp [World.cell?, hsb]
            go_wp2_with fail
            have hr4d : RingAt w4.drew R B n low ps := hr4.drewN 1
            have hf4d : RefAt w4.drew M M n low (ringTo ps low n) A c := hf4.drewN 1
            have hb4d : Below w.heap.size w w4.drew := bl_drew hb4
            have hsbd : w4.drew.heap[bs]? = some (.cells #[.int .i64 k, .int .i64 at_, .int .i64 x] 32 (0, 0)) := hsb
            have hlen4 : (ringTo ps low n).length ≤ n := ringTo_length _ _ _
            cases hok : ringOk ps low (low + at_ % 12 - 2)
            · have hno : ¬ (low ≤ low + at_ % 12 - 2 ∧ low + at_ % 12 - 2 - low < n ∧ refHas (ringTo ps low n) (low + at_ % 12 - 2) = false) := fun h => by have := (plays_ok n3 hz (low + at_ % 12 - 2)).2 h; rw [hok] at this; cases this
              go_region_held3 (fun w' => w'.cell? ⟨bs, 1, none⟩ = some (.int .i64 at_) ∧ w'.cell? ⟨bs, 2, none⟩ = some (.int .i64 x)) (first | exact ⟨c1, c2⟩ | exact ⟨c15, c25⟩ | exact ⟨c16, c26⟩) (first
                | (go_at_call 12; refine (put_to hr4d x (low + at_ % 12 - 2) (by omega) false hok ps rfl).mono ?_; rintro e w5 ⟨rfl, hr5, ho5, _⟩; have hf5 := hf4d.kept ho5 (by rintro i (rfl | rfl) <;> omega); have hb5 := bl_only hb4d ho5 (by rintro i (rfl | rfl) <;> omega); have hsb5 := ho5.block hsbd (by rintro (h | h) <;> omega); have c15 : w5.cell? ⟨bs, 1, none⟩ = some (.int .i64 at_) := cell_of_blk hsb5 1; have c25 : w5.cell? ⟨bs, 2, none⟩ = some (.int .i64 x) := cell_of_blk hsb5 2)
                | (go_at_call 13; refine (refput_no hf5 (low + at_ % 12 - 2) x (by omega) l0 (by omega) (by omega) hno).mono ?_; rintro e w6 ⟨rfl, j, rfl⟩; have c16 : (w5.drewN j).cell? ⟨bs, 1, none⟩ = some (.int .i64 at_) := c15; have c26 : (w5.drewN j).cell? ⟨bs, 2, none⟩ = some (.int .i64 x) := c25))
              go_wp2_with fail
              go_meet
              case rel => exact ⟨low, ps, hr5.drewN j, by omega, hz, ⟨_, _, hf5.drewN j⟩, bl_drewN hb5 j, hsb5⟩
            · have hyes := (plays_ok n3 hz (low + at_ % 12 - 2)).1 hok
              have hpv := plays_put n3 hz hok x
              have hz5 : RingZ (ringPut ps (low + at_ % 12 - 2) x) := ringZ_set hz _ _ (fun h => by cases h)
              go_region_held3 (fun w' => w'.cell? ⟨bs, 1, none⟩ = some (.int .i64 at_) ∧ w'.cell? ⟨bs, 2, none⟩ = some (.int .i64 x)) (first | exact ⟨c1, c2⟩ | exact ⟨c15, c25⟩ | exact ⟨c16, c26⟩) (first
                | (go_at_call 12; refine (put_to hr4d x (low + at_ % 12 - 2) (by omega) true hok _ rfl).mono ?_; rintro e w5 ⟨rfl, hr5, ho5, _⟩; have hf5 := hf4d.kept ho5 (by rintro i (rfl | rfl) <;> omega); have hb5 := bl_only hb4d ho5 (by rintro i (rfl | rfl) <;> omega); have hsb5 := ho5.block hsbd (by rintro (h | h) <;> omega); have c15 : w5.cell? ⟨bs, 1, none⟩ = some (.int .i64 at_) := cell_of_blk hsb5 1; have c25 : w5.cell? ⟨bs, 2, none⟩ = some (.int .i64 x) := cell_of_blk hsb5 2)
                | (go_at_call 13; refine (refput_yes hf5 (low + at_ % 12 - 2) x (by omega) l0 (by omega) (by omega) hyes.1 hyes.2.1 hyes.2.2).mono ?_; rintro e w6 ⟨rfl, hf6, ho6⟩; have hr6 := hr5.kept ho6 (by omega) (by omega); have hb6 := bl_only hb5 ho6 (by rintro i rfl; omega); have hsb6 := ho6.block hsb5 (by omega); have c16 : w6.cell? ⟨bs, 1, none⟩ = some (.int .i64 at_) := cell_of_blk hsb6 1; have c26 : w6.cell? ⟨bs, 2, none⟩ = some (.int .i64 x) := cell_of_blk hsb6 2))
              go_wp2_with fail
              go_meet
              case rel => exact ⟨low, ringPut ps (low + at_ % 12 - 2) x, hr6, by omega, hz5, by rw [hpv]; exact hf6, hb6, hsb6⟩
      case rest =>
        clear hr4 hf4 hb4 hsb hz
        obtain ⟨low1, ps1, hr, hlow1, hz, ⟨A1, c1', hf⟩, hb, hsb⟩ := hcut
        have n3 := hr.len
        have l0 := hr.low0
        have hlen4 : (ringTo ps1 low1 n).length ≤ n := ringTo_length _ _ _
        go_wp2_with fail
        refine (get_any hr ask (by omega)).mono ?_
        rintro e w' ⟨rfl, j, rfl⟩
        have hr5 := hr.drewN j
        have hf5 := hf.drewN j
        have hb5 := bl_drewN hb j
        have hsb5 : (wc.drewN j).heap[bs]? = _ := hsb
        generalize wc.drewN j = w5 at *
        clear hr hf hb hsb
        go_wp2_with fail
        refine (get_ref hf5 ask (by omega)).mono ?_
        rintro e w' ⟨rfl, rfl⟩
        rw [plays_get n3 hz]
        generalize (ringGet ps1 low1 ask).1 = v1
        generalize (ringGet ps1 low1 ask).2 = q1
        have c1 : w5.cell? ⟨bs, 1, none⟩ = some (.int .i64 at_) := cell_of_blk hsb5 1
        have m1 := hf5.c1
        have t1 : 0 ≤ at_ % 12 := by omega
        have t2 : at_ % 12 < 12 := by omega
        have s1 : IntKind.i64.wrap (low1 + at_ % 12) = low1 + at_ % 12 := IntWalk.i64_in _ (by omega)
        have s2 : IntKind.i64.wrap (low1 + at_ % 12 - 2) = low1 + at_ % 12 - 2 := IntWalk.i64_in _ (by omega)
        go_wp2_with fail
        go_quiet (first
          | (go_at_call 8; exact Calls.quiet_of_same (rest_same at_ 12 _ (by decide) (by decide)))
          | (go_at_call 14; exact Calls.quiet_of (get_any (hr5.drewN _) (low1 + at_ % 12 - 2) (by omega))))
        have hr6 := hr5.drewN nq
        have hf6 := hf5.drewN nq
        have hb6 := bl_drewN hb5 nq
        have hsb6 : (w5.drewN nq).heap[bs]? = _ := hsb5
        generalize w5.drewN nq = w6 at *
        clear hr5 hf5 hb5 hsb5 c1 m1
        have c1 : w6.cell? ⟨bs, 1, none⟩ = some (.int .i64 at_) := cell_of_blk hsb6 1
        have m1 := hf6.c1
        have hgr : ∀ m, Calls Try.prog 15 #[.pointer (some ⟨M, 0, none⟩), .int .i64 (low1 + at_ % 12 - 2)] (w6.drewN m) fun e w' => e = .returned (.tuple #[.int .i64 (ringGet ps1 low1 (low1 + at_ % 12 - 2)).1, .bool (ringGet ps1 low1 (low1 + at_ % 12 - 2)).2]) ∧ w' = w6.drewN m := by
          intro m
          have := get_ref (hf6.drewN m) (low1 + at_ % 12 - 2) (by omega)
          rw [plays_get n3 hz] at this
          exact this.mono fun e w' ⟨h1, h2⟩ => ⟨h1, h2.symm⟩
        generalize (ringGet ps1 low1 (low1 + at_ % 12 - 2)).1 = v2 at *
        generalize (ringGet ps1 low1 (low1 + at_ % 12 - 2)).2 = q2 at *
        have HG := Lib.hid hgr
        clear hgr
        go_wp2_with fail
        go_quiet (first
          | (go_at_call 8; exact Calls.quiet_of_same (rest_same at_ 12 _ (by decide) (by decide)))
          | (go_at_call 15; exact Calls.quiet_of_same (HG.out _)))
        have hr7 := hr6.drewN nq
        have hf7 := hf6.drewN nq
        have hb7 := bl_drewN hb6 nq
        generalize w6.drewN nq = w7 at *
        clear hr6 hf6 hb6 hsb6 c1 m1 s1 s2 HG
        have m2 := hf7.c2
        have hr7d : RingAt w7.drew R B n low1 ps1 := hr7.drewN 1
        have hf7d : RefAt w7.drew M M n low1 (ringTo ps1 low1 n) A1 c1' := hf7.drewN 1
        have hb7d : Below w.heap.size w w7.drew := bl_drew hb7
        obtain ⟨L1, hL1'⟩ : ∃ L1, ringTo ps1 low1 n = L1 := ⟨_, rfl⟩
        rw [hL1'] at hf7 hf7d m2 hlen4
        have hL1 := Lib.hid hL1'
        clear hL1'
        go_wp2_with fail
        go_region_held3 (fun w' => w'.cell? ⟨M, 2, none⟩ = some (.slice A1 L1.length c1')) (first | exact m2 | exact m28 | exact m29) (first
          | (go_at_call 17; refine (items_pairs hr7d).mono ?_; rintro e w8 ⟨a8, c8, rfl, hp8, hbl8⟩; rw [hL1.out] at hp8 ⊢; have hb8 := bl_then hb7d hbl8; have hr8 := hr7d.kept (S := fun _ => False) (Only.of_below hbl8) id id; have hf8 := hf7d.kept (S := fun _ => False) (Only.of_below hbl8) (fun _ h => h.elim); have m28 := hf8.c2)
          | (go_at_call 16; refine (same_eq _ _ _ _ _ _ _ _ _ hp8 hf8.pairs (by omega)).mono ?_; rintro e w9 ⟨rfl, j9, rfl⟩; have m29 : (w8.drewN j9).cell? ⟨M, 2, none⟩ = some (.slice A1 L1.length c1') := m28))
        have hr9 := hr8.drewN j9
        have hf9 := hf8.drewN j9
        have hb9 := bl_drewN hb8 j9
        generalize w8.drewN j9 = w9 at *
        clear m2 m28 m29 hr7d hf7d hb7d hr7 hf7 hb7 hp8 hbl8 hb8 hr8 hf8
        have m1 := hf9.c1
        have m2 := hf9.c2
        have hr9d : RingAt w9.drew R B n low1 ps1 := hr9.drewN 1
        have hf9d : RefAt w9.drew M M n low1 L1 A1 c1' := hf9.drewN 1
        have hb9d : Below w.heap.size w w9.drew := bl_drew hb9
        have e1 : (v1 != v1) = false := by simp
        have e2 : (q1 != q1) = false := by simp
        have e3 : (v2 != v2) = false := by simp
        have e4 : (q2 != q2) = false := by simp
        have e5 : (low1 != low1) = false := by simp
        have e6 : ((L1.length : Int) != L1.length) = false := by simp
        go_wp2_with fail
        go_region_held3 (fun w' => w'.cell? ⟨M, 1, none⟩ = some (.int .i64 low1) ∧ w'.cell? ⟨M, 2, none⟩ = some (.slice A1 L1.length c1')) (first | exact ⟨m1, m2⟩ | exact ⟨m1x, m2x⟩) (first
          | (go_at_call 18; refine (low_any' hr9d).mono ?_; rintro e w' ⟨rfl, rfl⟩)
          | (go_at_call 19; refine (len_any hr9d).mono ?_; rintro e wx ⟨rfl, hblx⟩; rw [hL1.out]; have hbx := bl_then hb9d hblx; have hrx := hr9d.kept (S := fun _ => False) (Only.of_below hblx) id id; have hfx := hf9d.kept (S := fun _ => False) (Only.of_below hblx) (fun _ h => h.elim); have m1x := hfx.c1; have m2x := hfx.c2))
        go_wp2_with fail
        go_roundw
        case rel => exact ⟨I + 1, by omega, by omega, by simp, hbx, low1, ps1, hrx, by omega, hz, A1, c1', by rw [hL1.out]; exact hfx⟩
        case measure => simp [intOf]; omega
    · have hcase : (len : Int) ≤ I ∨ (I : Int) < len ∧ (60 : Int) ≤ I := by omega
      clear h1
      by_cases hs : 1 ≤ size ∧ size ≤ 4096
      · obtain ⟨N, rfl⟩ : ∃ N : Nat, size = N := ⟨size.toNat, by omega⟩
        have hN := new_yes N wr (by omega) (by omega)
        have e1 : decide ((1 : Int) ≤ N) = true := decide_eq_true (by omega)
        have e2 : decide ((N : Int) ≤ 4096) = true := decide_eq_true (by omega)
        rcases hcase with h1 | ⟨h1, h2⟩
        all_goals
          go_wp2_with fail
          refine hN.mono ?_
          rintro e w9 ⟨rfl, _, hb9, _⟩
          go_wp2_with fail
          go_ret
          exact ⟨rfl, bl_then hb hb9⟩
      · have hN := new_no size wr (by omega)
        have hs' : size < 1 ∨ 1 ≤ size ∧ 4096 < size := by omega
        clear hs
        rcases hs' with h3 | ⟨h3, h4⟩
        · have e1 : decide ((1 : Int) ≤ size) = false := decide_eq_false (by omega)
          rcases hcase with h1 | ⟨h1, h2⟩
          all_goals
            go_wp2_with fail
            refine hN.mono ?_
            rintro e w9 ⟨rfl, rfl⟩
            go_wp2_with fail
            go_ret
            exact ⟨rfl, hb⟩
        · have e1 : decide ((1 : Int) ≤ size) = true := decide_eq_true (by omega)
          have e2 : decide (size ≤ 4096) = false := decide_eq_false (by omega)
          rcases hcase with h1 | ⟨h1, h2⟩
          all_goals
            go_wp2_with fail
            refine hN.mono ?_
            rintro e w9 ⟨rfl, rfl⟩
            go_wp2_with fail
            go_ret
            exact ⟨rfl, hb⟩
end Go.Proofs.Ythjcomekfiibnaa
