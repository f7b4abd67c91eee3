/- Chapter 6: the document's own Compare, Sort and Same. -/
import Derived.Test.YtmiijnemacgbiaaTupX
namespace Go.Proofs.Ytmiijnemacgbiaa
open Go.RowKit
set_option linter.unusedVariables false
set_option linter.unusedSimpArgs false

/-- A world that is as it was, but for draws. -/
def Drawn (w w' : World) : Prop := ∃ j, w' = w.drewN j
theorem Drawn.refl (w : World) : Drawn w w := ⟨0, rfl⟩
theorem Drawn.drewN {w w' : World} (h : Drawn w w') (n : Nat) : Drawn w (w'.drewN n) := by
  obtain ⟨j, rfl⟩ := h
  exact drews w j n
theorem Drawn.trans {a b c : World} (h : Drawn a b) (k : Drawn b c) : Drawn a c := by
  obtain ⟨j, rfl⟩ := k
  exact h.drewN j
theorem Drawn.below {w w' : World} (h : Drawn w w') : Below w.heap.size w w' := by
  obtain ⟨j, rfl⟩ := h
  exact bl_drewN (Below.refl _ _) j
/-- A callee that draws, met behind draws. -/
theorem Drawn.quiet {P : Program} {f : FuncId} {args : Array Value} {w : World} {n : Nat} {v : Value}
    (h : Calls P f args (w.drewN n) fun e w' => e = .returned v ∧ Drawn (w.drewN n) w') : Calls P f args (w.drewN n) fun e w'' => e = .returned v ∧ ∃ m, w'' = w.drewN m :=
  Calls.quiet_of h
set_option maxHeartbeats 4000000 in
theorem row_q {w : World} {a b : Option Addr} {n m c d : Nat} {zs ys : List Int} (h : IntsAt w a n zs) (k : IntsAt w b m ys) :
    Calls Try.prog 31 #[.slice a n c, .slice b m d] w fun e w' => e = .returned (.int .i64 (cmpL zs ys)) ∧ Drawn w w' := by
  have hsm : n ≤ 140737488355328 := by have := h.small; omega
  have H := Lib.hid h
  have K := Lib.hid k
  clear h k
  obtain ⟨R, hR⟩ : ∃ R, cmpL zs ys = R := ⟨_, rfl⟩
  rw [hR]
  have HR := Lib.hid hR
  clear hR
  go_enter Try.func31, Try.ntmps31
  go_wp2_with fail
  go_loopw [5] (fun i wr => ∃ I : Nat, I ≤ n ∧ I ≤ m ∧ i = .int .i64 I ∧ lexC cmpI (zs.drop I) (ys.drop I) = R ∧ Drawn w wr) (fun i _ => n - (intOf i).toNat)
  case atStart => exact ⟨0, Nat.zero_le _, Nat.zero_le _, rfl, HR.out, Drawn.refl _⟩
  case round =>
    obtain ⟨I, hI, hIm, rfl, hr, hb⟩ := hrel
    by_cases hlt : I < n
    · have iI : (I : Int) < n := by omega
      by_cases hlt2 : I < m
      · have iM : decide ((I : Int) < m) = true := decide_eq_true (by omega)
        have iM2 : (I : Int) < m := by omega
        obtain ⟨g, off, rfl, hg, hc⟩ := (H.out.below hb.below).cells (by omega)
        obtain ⟨g2, off2, rfl, hg2, hc2⟩ := (K.out.below hb.below).cells (by omega)
        have c1 := hc I hlt
        have c2 := hc2 I hlt2
        have hz : zs[I]? = some (zs.getD I 0) := by
          rw [List.getD_eq_getElem?_getD, List.getElem?_eq_getElem (by rw [H.out.len]; exact hlt)]; rfl
        have hy : ys[I]? = some (ys.getD I 0) := by
          rw [List.getD_eq_getElem?_getD, List.getElem?_eq_getElem (by rw [K.out.len]; exact hlt2)]; rfl
        have hs := lexC_step cmpI hz hy
        rw [hr] at hs
        generalize zs.getD I 0 = x at *
        generalize ys.getD I 0 = y at *
        have HS := Lib.hid hs
        clear hc hc2 hs hr hz hy
        by_cases h1 : x < y
        · have e1 : cmpI x y = -1 := if_pos h1
          have hs := HS.out
          rw [if_neg (by rw [e1]; decide), e1] at hs
          subst hs
          clear HS HR e1
          go_wp2_with fail
          go_quiet (fail)
          go_wp2_with fail
          go_ret
          first | exact ⟨rfl, hb.drewN _⟩ | exact ⟨rfl, (hb.drewN _).drewN _⟩
        · by_cases h2 : y < x
          · have e1 : cmpI x y = 1 := (if_neg h1).trans (if_pos h2)
            have hs := HS.out
            rw [if_neg (by rw [e1]; decide), e1] at hs
            subst hs
            clear HS HR e1
            go_wp2_with fail
            go_quiet (fail)
            go_wp2_with fail
            go_quiet (fail)
            go_wp2_with fail
            go_ret
            first | exact ⟨rfl, hb.drewN _⟩ | exact ⟨rfl, (hb.drewN _).drewN _⟩
          · have e1 : cmpI x y = 0 := (if_neg h1).trans (if_neg h2)
            have hs := HS.out
            rw [if_pos e1] at hs
            have HS2 := Lib.hid hs
            clear HS hs e1
            go_wp2_with fail
            go_quiet (fail)
            go_wp2_with fail
            go_quiet (fail)
            go_wp2_with fail
            go_roundw
            case rel => exact ⟨I + 1, hlt, hlt2, by simp, HS2.out.symm, hb.drewN _⟩
            case measure => simp [intOf]; omega
      · obtain rfl : I = m := by omega
        have iM : decide ((I : Int) < I) = false := decide_eq_false (by omega)
        have iM2 : ¬ (n : Int) < I := by omega
        have hs := lexC_long cmpI (l := zs) (k := ys) (I := I) (by rw [H.out.len]; exact hlt) (by rw [K.out.len]; exact Nat.le_refl _)
        rw [hr] at hs
        subst hs
        clear hr HR
        go_wp2_with fail
        go_ret
        exact ⟨rfl, hb⟩
    · obtain rfl : I = n := by omega
      have iI : ¬ (I : Int) < I := by omega
      have hs := lexC_end cmpI (l := zs) (k := ys) (I := I) (by rw [H.out.len]; exact Nat.le_refl _)
      rw [hr, K.out.len] at hs
      clear hr HR
      by_cases h2 : I < m
      · rw [if_pos h2] at hs
        subst hs
        have i2 : (I : Int) < m := by omega
        go_wp2_with fail
        go_ret
        exact ⟨rfl, hb⟩
      · rw [if_neg h2] at hs
        subst hs
        have i2 : ¬ (I : Int) < m := by omega
        have i3 : ¬ (m : Int) < I := by omega
        go_wp2_with fail
        go_ret
        exact ⟨rfl, hb⟩
set_option maxHeartbeats 4000000 in
theorem rcmp_at {w : World} {A B : Option Addr} {n m c d : Nat} {rs qs : List RowV} (h : RowsAt w A n rs) (k : RowsAt w B m qs) :
    Calls Try.prog 19 #[.slice A n c, .slice B m d] w fun e w' => e = .returned (.int .i64 (cmpLL (nums rs) (nums qs))) ∧ Drawn w w' := by
  have hsm := h.small
  have hl1 : (nums rs).length = n := by rw [nums_length]; exact h.len
  have hl2 : (nums qs).length = m := by rw [nums_length]; exact k.len
  have H := Lib.hid h
  have K := Lib.hid k
  have HL1 := Lib.hid hl1
  have HL2 := Lib.hid hl2
  clear h k hl1 hl2
  obtain ⟨R, hR⟩ : ∃ R, cmpLL (nums rs) (nums qs) = R := ⟨_, rfl⟩
  rw [hR]
  have HR := Lib.hid hR
  clear hR
  go_enter Try.func19, Try.ntmps19
  go_wp2_with fail
  go_loopw [5] (fun i wr => ∃ I : Nat, I ≤ n ∧ I ≤ m ∧ i = .int .i64 I ∧ lexC cmpL ((nums rs).drop I) ((nums qs).drop I) = R ∧ Drawn w wr) (fun i _ => n - (intOf i).toNat)
  case atStart => exact ⟨0, Nat.zero_le _, Nat.zero_le _, rfl, HR.out, Drawn.refl _⟩
  case round =>
    obtain ⟨I, hI, hIm, rfl, hr, hb⟩ := hrel
    by_cases hlt : I < n
    · have iI : (I : Int) < n := by omega
      by_cases hlt2 : I < m
      · have iM : decide ((I : Int) < m) = true := decide_eq_true (by omega)
        have iM2 : (I : Int) < m := by omega
        obtain ⟨g, off, rfl, hg, hc⟩ := (H.out.below hb.below).cells (by omega)
        obtain ⟨g2, off2, rfl, hg2, hc2⟩ := (K.out.below hb.below).cells (by omega)
        obtain ⟨r, hr1⟩ : ∃ r, rs[I]? = some r := ⟨_, List.getElem?_eq_getElem (by rw [H.out.len]; exact hlt)⟩
        obtain ⟨q, hq1⟩ : ∃ q, qs[I]? = some q := ⟨_, List.getElem?_eq_getElem (by rw [K.out.len]; exact hlt2)⟩
        have c1 := hc I r hr1
        have c2 := hc2 I q hq1
        have ht1 := ((H.out.below hb.below).each r (List.mem_of_getElem? hr1)).2.2.2
        have ht2 := ((K.out.below hb.below).each q (List.mem_of_getElem? hq1)).2.2.2
        have hz := nums_at hr1
        have hy := nums_at hq1
        obtain ⟨ra, rn, rc, rz⟩ := r
        obtain ⟨qa, qn, qc, qz⟩ := q
        dsimp only at c1 c2 ht1 ht2 hz hy
        have hs := lexC_step cmpL hz hy
        rw [hr] at hs
        have hcall : ∀ nq, Calls Try.prog 31 #[.slice ra rn rc, .slice qa qn qc] (wr.drewN nq) fun e w' => e = .returned (.int .i64 (cmpL rz qz)) ∧ Drawn (wr.drewN nq) w' := fun nq => row_q (ht1.below (bl_drewN (Below.refl _ _) nq)) (ht2.below (bl_drewN (Below.refl _ _) nq))
        obtain ⟨Z, hZ⟩ : ∃ Z, cmpL rz qz = Z := ⟨_, rfl⟩
        rw [hZ] at hs hcall
        have HCALL := Lib.hid hcall
        have HS := Lib.hid hs
        have HB := Lib.hid hb
        clear hc hc2 hs hr hz hy ht1 ht2 hr1 hq1 hZ hcall hb
        by_cases e1 : Z = 0
        · subst e1
          have hs := HS.out
          rw [if_pos rfl] at hs
          have HS2 := Lib.hid hs
          clear HS hs
          go_wp2_with fail
          go_quiet ((go_at_call 31; exact Drawn.quiet (HCALL.out _)))
          go_wp2_with fail
          go_roundw
          case rel => exact ⟨I + 1, hlt, hlt2, by simp, HS2.out.symm, HB.out.drewN _⟩
          case measure => simp [intOf]; omega
        · have hs := HS.out
          rw [if_neg e1] at hs
          subst hs
          have q1 : (R != 0) = true := by simpa using e1
          clear HS HR
          go_wp2_with fail
          go_quiet ((go_at_call 31; exact Drawn.quiet (HCALL.out _)))
          go_wp2_with fail
          go_ret
          exact ⟨rfl, HB.out.drewN _⟩
      · obtain rfl : I = m := by omega
        have iM : decide ((I : Int) < I) = false := decide_eq_false (by omega)
        have iM2 : ¬ (n : Int) < I := by omega
        have hs := lexC_long cmpL (l := nums rs) (k := nums qs) (I := I) (by rw [HL1.out]; exact hlt) (by rw [HL2.out]; exact Nat.le_refl _)
        rw [hr] at hs
        subst hs
        clear hr HR
        go_wp2_with fail
        go_ret
        exact ⟨rfl, hb⟩
    · obtain rfl : I = n := by omega
      have iI : ¬ (I : Int) < I := by omega
      have hs := lexC_end cmpL (l := nums rs) (k := nums qs) (I := I) (by rw [HL1.out]; exact Nat.le_refl _)
      rw [hr, HL2.out] at hs
      clear hr HR
      by_cases h2 : I < m
      · rw [if_pos h2] at hs
        subst hs
        have i2 : (I : Int) < m := by omega
        go_wp2_with fail
        go_ret
        exact ⟨rfl, hb⟩
      · rw [if_neg h2] at hs
        subst hs
        have i2 : ¬ (I : Int) < m := by omega
        have i3 : ¬ (m : Int) < I := by omega
        go_wp2_with fail
        go_ret
        exact ⟨rfl, hb⟩
theorem rcmp_ok {w0 : World} {x y : MatV} (hx : MatOk w0 x) (hy : MatOk w0 y) {Z : Int} (hZ : cmpM x y = Z) (W : World) (hW : Below w0.heap.size w0 W) : Calls Try.prog 19 #[.slice x.a x.n x.c, .slice y.a y.n y.c] W fun e w' => e = .returned (.int .i64 Z) ∧ Drawn W w' := by
  have := rcmp_at (c := x.c) (d := y.c) (hx.rows.below hW) (hy.rows.below hW)
  unfold cmpM MatV.num at hZ
  rwa [hZ] at this
set_option maxHeartbeats 4000000 in
theorem rsame_at {w : World} {A B : Option Addr} {n c d : Nat} {l k : List MatV} (h : MatsAt w A n l) (h' : MatsAt w B n k) (hs : l.map MatV.num = k.map MatV.num) :
    Calls Try.prog 20 #[.slice A n c, .slice B n d] w fun e w' => e = .returned (.bool true) ∧ Below w.heap.size w w' := by
  have hn := h.few
  have H := Lib.hid h
  have K := Lib.hid h'
  have HS := Lib.hid hs
  clear h h' hs
  have e0 : ((n : Int) != n) = false := by simp
  go_enter Try.func20, Try.ntmps20
  go_wp2_with fail
  go_loopw [5] (fun i wr => ∃ I : Nat, I ≤ n ∧ i = .int .i64 I ∧ Below w.heap.size w wr) (fun i _ => n - (intOf i).toNat)
  case atStart => exact ⟨0, Nat.zero_le _, rfl, Below.refl _ _⟩
  case round =>
    obtain ⟨I, hI, rfl, hb⟩ := hrel
    by_cases hlt : I < n
    · have iI : (I : Int) < n := by omega
      obtain ⟨ba, oa, rfl, hca⟩ := H.out.cell (by omega)
      obtain ⟨bb, ob, rfl, hcb⟩ := K.out.cell (by omega)
      obtain ⟨x, hx, hxm⟩ := H.out.at_ hlt
      obtain ⟨y, hy, hym⟩ := K.out.at_ hlt
      have c1 := hca wr hb I x hx
      have c2 := hcb wr hb I y hy
      have HC := Lib.hid fun nq => rcmp_ok (H.out.each x hxm) (K.out.each y hym) (same_at HS.out hx hy) (wr.drewN nq) (bl_drewN hb nq)
      have HB := Lib.hid hb
      clear hca hcb hx hy hxm hym hb
      go_wp2_with fail
      go_quiet ((go_at_call 19; exact Drawn.quiet (HC.out _)))
      go_wp2_with fail
      exact ⟨⟨I + 1, hlt, by simp, bl_drewN HB.out _⟩, by simp [intOf]; omega⟩
    · obtain rfl : I = n := by omega
      have iI : ¬ (I : Int) < I := by omega
      go_wp2_with fail
      go_ret
      exact ⟨rfl, hb⟩
end Go.Proofs.Ytmiijnemacgbiaa
