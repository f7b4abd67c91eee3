/- Chapter 6: TupleTells. -/
import Derived.Test.YtmiijnemacgbiaaTupZ
namespace Go.Proofs.Ytmiijnemacgbiaa
open Go.RowKit
set_option linter.unusedVariables false
set_option linter.unusedSimpArgs false

theorem flat_as {w : World} {l : List Int} {L : Nat} (hL : l.length = L) {f : FuncId} {v : Value} (h : Calls Try.prog f #[v] w (FlatOut w l)) : Calls Try.prog f #[v] w fun e w' => ∃ A c, e = .returned (.slice A L c) ∧ IntsAt w' A L l ∧ Below w.heap.size w w' :=
  h.mono fun e w' ⟨A, c, he, hi, hb⟩ => by subst hL; exact ⟨A, c, he, hi, hb⟩
set_option maxRecDepth 100000 in
set_option maxHeartbeats 8000000 in
theorem tells_law (a0 : Option Addr) (n0 c0 : Nat) (x0 : List (List Int)) (w : World) (hr0 : RowAt (kSlice (kInt .i64) 8) 24 w a0 n0 x0) :
    Calls Try.prog 6 #[.slice a0 n0 c0] w fun e w' => e = .returned (.bool true) ∧ Below w.heap.size w w' := by
  obtain ⟨r0, hR0, _⟩ := hr0.rows
  have HR0 := Lib.hid hR0
  clear hr0 hR0
  go_enter Try.func6, Try.ntmps6
  go_wp2_with fail
  refine (awake_any _).mono ?_
  rintro e w1 ⟨rfl, hb1⟩
  have HB1 := Lib.hid hb1
  clear hb1
  go_wp2_with fail
  refine (matches_at (HR0.out.below HB1.out)).mono ?_
  rintro e w6 ⟨A, n, c, ms, rfl, hM, hown, hb2⟩
  have hn := hM.few
  have HM := Lib.hid hM
  have HB2 := Lib.hid (bl_then HB1.out hb2)
  clear hM hown hb2
  go_wp2_with fail
  go_loopw [5] (fun i wr => ∃ I : Nat, I ≤ n ∧ i = .int .i64 I ∧ Below w6.heap.size w6 wr) (fun i _ => n - (intOf i).toNat)
  case atStart => exact ⟨0, Nat.zero_le _, rfl, Below.refl _ _⟩
  case round =>
    obtain ⟨I, hI, rfl, hbr⟩ := hrel
    by_cases hlt : I < n
    · have iI : (I : Int) < n := by omega
      obtain ⟨bm, om, rfl, hcm⟩ := HM.out.cell (by omega)
      obtain ⟨z, hz, hzm⟩ := HM.out.at_ hlt
      have hzok := HM.out.each z hzm
      have cz := hcm wr hbr I z hz
      obtain ⟨l, hl⟩ : ∃ l, flatN z.rs z.n = l := ⟨_, rfl⟩
      obtain ⟨L, hL⟩ : ∃ L, l.length = L := ⟨_, rfl⟩
      have F1 : Hid (∀ W, Below w6.heap.size w6 W → Calls Try.prog 17 #[.slice z.a z.n z.c] W fun e w' => ∃ A c, e = .returned (.slice A L c) ∧ IntsAt w' A L l ∧ Below W.heap.size W w') := Lib.hid fun W hW => flat_as hL (hl ▸ flat_at (hzok.flat.below hW))
      have F2 : Hid (∀ W, Below w6.heap.size w6 W → Calls Try.prog 18 #[.slice z.a z.n z.c] W fun e w' => ∃ A c, e = .returned (.slice A L c) ∧ IntsAt w' A L l ∧ Below W.heap.size W w') := Lib.hid fun W hW => flat_as hL (hl ▸ rflat_at (hzok.flat.below hW))
      have HCM := Lib.hid hcm
      have HZ := Lib.hid hz
      have HZOK := Lib.hid hzok
      have hsame : decide (cmpL l l = 0) = true := decide_eq_true ((lexC_ord cmpI_ord).refl l)
      have HSAME := Lib.hid hsame
      clear hcm hz hzm hzok hl hL hsame
      go_wp2_with fail
      go_region_held3 (fun w' => w'.cell? ⟨bm, om + I, none⟩ = some (.slice z.a z.n z.c)) (first | exact d3 | exact d2 | exact d1 | exact cz) (first
        | (go_at_call 17; refine (F1.out _ (bl_drew hbr)).mono ?_; rintro e w8 ⟨A1, c1, rfl, hi1, hb8⟩; have hb8' := bl_then (bl_drew hbr) hb8; have d1 := HCM.out _ hb8' I z HZ.out)
        | (go_at_call 18; refine (F2.out _ hb8').mono ?_; rintro e w9 ⟨A2, c2, rfl, hi2, hb9⟩; have hb9' := bl_then hb8' hb9; have d2 := HCM.out _ hb9' I z HZ.out)
        | (go_at_call 16; refine (samerow_any (hi1.below hb9) hi2 true HSAME.out).mono ?_; rintro e w10 ⟨rfl, hb10⟩; have hb10' := bl_then hb9' hb10; have d3 := HCM.out _ hb10' I z HZ.out))
      have HB10 := Lib.hid hb10'
      clear d1 d2 d3 cz hb8 hb8' hb9 hb9' hb10 hb10' hi1 hi2 hbr F1 F2
      go_wp2_with fail
      go_loopw [7] (fun k W => ∃ K : Nat, K ≤ n ∧ k = .int .i64 K ∧ Below w6.heap.size w6 W) (fun k _ => n - (intOf k).toNat)
      case atStart => exact ⟨0, Nat.zero_le _, rfl, HB10.out⟩
      case round =>
        obtain ⟨K, hK, rfl, hb8⟩ := hrel
        by_cases hk : K < n
        · have iK : (K : Int) < n := by omega
          obtain ⟨u, hu, hum⟩ := HM.out.at_ hk
          have c1 := HCM.out wr hb8 I z HZ.out
          have c2 := HCM.out wr hb8 K u hu
          obtain ⟨Z, hZ⟩ : ∃ Z, cmpM z u = Z := ⟨_, rfl⟩
          have C1 := Lib.hid (cmp_later HZOK.out (HM.out.each u hum) hZ hb8)
          have C2 := Lib.hid fun nq => rcmp_ok HZOK.out (HM.out.each u hum) hZ (wr.drewN nq) (bl_drewN hb8 nq)
          have e1 : (Z != Z) = false := by simp
          have HB8 := Lib.hid hb8
          clear hu hum hZ hb8
          go_wp2_with fail
          go_quiet ((first | (go_at_call 10; exact Calls.quiet_of_same (C1.out _)) | (go_at_call 19; exact Drawn.quiet (C2.out _))))
          go_wp2_with fail
          go_roundw
          case rel => exact ⟨K + 1, hk, by simp, bl_drewN HB8.out _⟩
          case measure => simp [intOf]; omega
        · obtain rfl : K = n := by omega
          have iK : ¬ (K : Int) < K := by omega
          have HB8 := Lib.hid hb8
          clear hb8
          go_wp2_with fail
          exact ⟨⟨I + 1, hlt, by simp, HB8.out⟩, by simp [intOf]; omega⟩
    · obtain rfl : I = n := by omega
      have iI : ¬ (I : Int) < I := by omega
      have HS := Lib.hid (sort_at (c := c) (HM.out.below hbr))
      have HM7 := Lib.hid (HM.out.below hbr)
      have HB7 := Lib.hid (bl_then HB2.out hbr)
      clear hbr
      go_wp2_with fail
      refine HS.out.mono ?_
      rintro e w7 ⟨A1, c1, l1, rfl, hp1, ho1, hm1, hb7⟩
      have HM8 := Lib.hid (HM7.out.below hb7)
      have HB8 := Lib.hid (bl_then HB7.out hb7)
      have HP1 := Lib.hid hp1
      have HO1 := Lib.hid ho1
      have H1 := Lib.hid hm1
      have HS2 := Lib.hid (rsort_at (c := c) HM8.out)
      clear hp1 ho1 hm1 hb7 HS
      go_wp2_with fail
      refine HS2.out.mono ?_
      rintro e w8 ⟨A2, c2, l2, rfl, hp2, ho2, hm2, hb8⟩
      have HS3 := Lib.hid (rsame_at (c := c1) (d := c2) (H1.out.below hb8) hm2 (inOrder_same HO1.out ho2 ((HP1.out.trans hp2.symm).map _)))
      have HB9 := Lib.hid (bl_then HB8.out hb8)
      clear hp2 ho2 hm2 hb8 HS2
      go_wp2_with fail
      refine HS3.out.mono ?_
      rintro e w9 ⟨rfl, hb9⟩
      have HB10 := Lib.hid (bl_then HB9.out hb9)
      clear hb9 HS3
      go_wp2_with fail
      go_ret
      exact ⟨rfl, HB10.out⟩
end Go.Proofs.Ytmiijnemacgbiaa
