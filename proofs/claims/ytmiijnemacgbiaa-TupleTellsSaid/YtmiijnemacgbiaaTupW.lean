/- Chapter 6: row, SameRow, awake. -/
import Derived.Test.YtmiijnemacgbiaaTupA
namespace Go.Proofs.Ytmiijnemacgbiaa
open Go.RowKit
set_option linter.unusedVariables false
set_option linter.unusedSimpArgs false

set_option maxHeartbeats 4000000 in
theorem row_any {w : World} {a b : Option Addr} {n m c d : Nat} {zs ys : List Int} (h : IntsAt w a n zs) (k : IntsAt w b m ys) :
    Calls Try.prog 31 #[.slice a n c, .slice b m d] w fun e w' => e = .returned (.int .i64 (cmpL zs ys)) ∧ Below w.heap.size w w' := by
  have hsm : n ≤ 140737488355328 := by have := h.small; omega
  have H := Lib.hid h
  have K := Lib.hid k
  clear h k
  obtain ⟨R, hR⟩ : ∃ R, cmpL zs ys = R := ⟨_, rfl⟩
  rw [hR]
  have HR := Lib.hid hR
  clear hR
  go_enter Try.func31, Try.ntmps31
  go_wp2_with fail
  go_loopw [5] (fun i wr => ∃ I : Nat, I ≤ n ∧ I ≤ m ∧ i = .int .i64 I ∧ lexC cmpI (zs.drop I) (ys.drop I) = R ∧ Below w.heap.size w wr) (fun i _ => n - (intOf i).toNat)
  case atStart => exact ⟨0, Nat.zero_le _, Nat.zero_le _, rfl, HR.out, Below.refl _ _⟩
  case round =>
    obtain ⟨I, hI, hIm, rfl, hr, hb⟩ := hrel
    by_cases hlt : I < n
    · have iI : (I : Int) < n := by omega
      by_cases hlt2 : I < m
      · have iM : decide ((I : Int) < m) = true := decide_eq_true (by omega)
        have iM2 : (I : Int) < m := by omega
        obtain ⟨g, off, rfl, hg, hc⟩ := (H.out.below hb).cells (by omega)
        obtain ⟨g2, off2, rfl, hg2, hc2⟩ := (K.out.below hb).cells (by omega)
        have c1 := hc I hlt
        have c2 := hc2 I hlt2
        have hz : zs[I]? = some (zs.getD I 0) := by
          rw [List.getD_eq_getElem?_getD, List.getElem?_eq_getElem (by rw [H.out.len]; exact hlt)]; rfl
        have hy : ys[I]? = some (ys.getD I 0) := by
          rw [List.getD_eq_getElem?_getD, List.getElem?_eq_getElem (by rw [K.out.len]; exact hlt2)]; rfl
        have hs := lexC_step cmpI hz hy
        rw [hr] at hs
        generalize zs.getD I 0 = x at *
        generalize ys.getD I 0 = y at *
        have HS := Lib.hid hs
        clear hc hc2 hs hr hz hy
        by_cases h1 : x < y
        · have e1 : cmpI x y = -1 := if_pos h1
          have hs := HS.out
          rw [if_neg (by rw [e1]; decide), e1] at hs
          subst hs
          clear HS HR e1
          go_wp2_with fail
          go_quiet (fail)
          go_wp2_with fail
          go_ret
          exact ⟨rfl, bl_drewN hb _⟩
        · by_cases h2 : y < x
          · have e1 : cmpI x y = 1 := (if_neg h1).trans (if_pos h2)
            have hs := HS.out
            rw [if_neg (by rw [e1]; decide), e1] at hs
            subst hs
            clear HS HR e1
            go_wp2_with fail
            go_quiet (fail)
            go_wp2_with fail
            go_quiet (fail)
            go_wp2_with fail
            go_ret
            exact ⟨rfl, bl_drewN (bl_drewN hb _) _⟩
          · have e1 : cmpI x y = 0 := (if_neg h1).trans (if_neg h2)
            have hs := HS.out
            rw [if_pos e1] at hs
            have HS2 := Lib.hid hs
            clear HS hs e1
            go_wp2_with fail
            go_quiet (fail)
            go_wp2_with fail
            go_quiet (fail)
            go_wp2_with fail
            go_roundw
            case rel => exact ⟨I + 1, hlt, hlt2, by simp, HS2.out.symm, bl_drewN hb _⟩
            case measure => simp [intOf]; omega
      · obtain rfl : I = m := by omega
        have iM : decide ((I : Int) < I) = false := decide_eq_false (by omega)
        have iM2 : ¬ (n : Int) < I := by omega
        have hs := lexC_long cmpI (l := zs) (k := ys) (I := I) (by rw [H.out.len]; exact hlt) (by rw [K.out.len]; exact Nat.le_refl _)
        rw [hr] at hs
        subst hs
        clear hr HR
        go_wp2_with fail
        go_ret
        exact ⟨rfl, hb⟩
    · obtain rfl : I = n := by omega
      have iI : ¬ (I : Int) < I := by omega
      have hs := lexC_end cmpI (l := zs) (k := ys) (I := I) (by rw [H.out.len]; exact Nat.le_refl _)
      rw [hr, K.out.len] at hs
      clear hr HR
      by_cases h2 : I < m
      · rw [if_pos h2] at hs
        subst hs
        have i2 : (I : Int) < m := by omega
        go_wp2_with fail
        go_ret
        exact ⟨rfl, hb⟩
      · rw [if_neg h2] at hs
        subst hs
        have i2 : ¬ (I : Int) < m := by omega
        have i3 : ¬ (m : Int) < I := by omega
        go_wp2_with fail
        go_ret
        exact ⟨rfl, hb⟩
theorem samerow_any {w : World} {a b : Option Addr} {n m c d : Nat} {zs ys : List Int} (h : IntsAt w a n zs) (k : IntsAt w b m ys) (t : Bool) (ht : decide (cmpL zs ys = 0) = t) :
    Calls Try.prog 16 #[.slice a n c, .slice b m d] w fun e w' => e = .returned (.bool t) ∧ Below w.heap.size w w' := by
  have HC := Lib.hid (row_any (c := c) (d := d) h k)
  clear h k
  generalize cmpL zs ys = R at *
  have hb : ((R : Int) == 0) = t := by rw [← ht]; cases hd : decide (R = 0) <;> simp_all
  clear ht
  go_enter Try.func16, Try.ntmps16
  go_wp2_with fail
  refine HC.out.mono ?_
  rintro e w' ⟨rfl, hbl⟩
  go_wp2_with fail
  go_ret
  exact ⟨by simp [hb], hbl⟩
theorem ints_blk {w : World} {b : Nat} {l : List Int} {vs : List Value} (hv : vs = intCells l) (h : w.heap[b]? = some (.cells vs.toArray 3 (0, 0))) (hl : l.length ≤ 1000) (hw : ∀ z ∈ l, -9223372036854775808 ≤ z ∧ z ≤ 9223372036854775807) : IntsAt w (some ⟨b, 0, none⟩) l.length l := by
  subst hv
  refine ⟨rfl, by omega, fun hp => ⟨b, 0, rfl, block_lt h, fun i hi => ?_⟩, hw⟩
  rw [Nat.zero_add, cell_of_blk h, intCells, List.getElem?_map, List.getD_eq_getElem?_getD, List.getElem?_eq_getElem hi]
  rfl
theorem rows_blk {w : World} {b : Nat} {rs : List RowV} {vs : List Value} (hv : vs = rowCells rs) (h : w.heap[b]? = some (.cells vs.toArray 26 (0, 0))) (hl : rs.length ≤ 1000) (he : ∀ r ∈ rs, r.n ≤ r.c ∧ r.c ≤ maxLen ∧ (r.a = none → r.n = 0 ∧ r.c = 0) ∧ IntsAt w r.a r.n r.zs) : RowsAt w (some ⟨b, 0, none⟩) rs.length rs := by
  subst hv
  refine ⟨rfl, by omega, fun hp => ⟨b, 0, rfl, block_lt h, fun i r hi => ?_⟩, he⟩
  rw [Nat.zero_add, cell_of_blk h, rowCells, List.getElem?_map, hi]
  rfl
theorem IntsAt.of_own {w : World} {lo : Nat} {A : Option Addr} {n c : Nat} {l : List Int} (h : w.ownsRow lo 3 1 (.slice A n c) n (intCells l)) (hs : n ≤ 1000000) (hw : ∀ z ∈ l, -9223372036854775808 ≤ z ∧ z ≤ 9223372036854775807) : IntsAt w A n l := by
  have hl : l.length = n := by have := h.1; rw [intCells, List.length_map] at this; omega
  refine ⟨hl, by omega, fun hp => ?_, hw⟩
  obtain ⟨g, rfl, _, _, hg, hc⟩ := own_some h hp
  refine ⟨g, 0, rfl, hg, fun i hi => ?_⟩
  rw [Nat.zero_add]
  exact hc i _ (by rw [intCells, List.getElem?_map, List.getD_eq_getElem?_getD, List.getElem?_eq_getElem (by omega)]; rfl)
def litRow (z : Nat) (p : List Int) : RowV := ⟨some ⟨z, 0, none⟩, p.length, p.length, p⟩
theorem lit_each {w : World} {z : Nat} {p : List Int} (h : w.heap[z]? = some (.cells (intCells p).toArray 3 (0, 0))) (hp : 0 < p.length) (hl : p.length ≤ 1000) (hw : ∀ z ∈ p, -9223372036854775808 ≤ z ∧ z ≤ 9223372036854775807) :
    (litRow z p).n ≤ (litRow z p).c ∧ (litRow z p).c ≤ maxLen ∧ ((litRow z p).a = none → (litRow z p).n = 0 ∧ (litRow z p).c = 0) ∧ IntsAt w (litRow z p).a (litRow z p).n (litRow z p).zs :=
  ⟨Nat.le_refl _, by show p.length ≤ maxLen; simp only [maxLen]; omega, (fun e => by cases e), ints_blk rfl h hl hw⟩
theorem lit_two (w : World) (z : Nat) (hz : w.heap.size = z) (p q : List Int) (rest : List RowV) (hp : 0 < p.length) (hq : 0 < q.length) (hpl : p.length ≤ 1000) (hql : q.length ≤ 1000) (hr : rest.length ≤ 10) (hrest : ∀ r ∈ rest, r = ⟨none, 0, 0, []⟩)
    (hpw : ∀ z ∈ p, -9223372036854775808 ≤ z ∧ z ≤ 9223372036854775807) (hqw : ∀ z ∈ q, -9223372036854775808 ≤ z ∧ z ≤ 9223372036854775807) (V : World)
    (hV : ((w.alloc (.cells (intCells p).toArray 3)).alloc (.cells (intCells q).toArray 3)).alloc (.cells (rowCells (litRow z p :: litRow (z + 1) q :: rest)).toArray 26) = V) :
    RowsAt V (some ⟨z + 1 + 1, 0, none⟩) (rest.length + 1 + 1) (litRow z p :: litRow (z + 1) q :: rest) ∧ Below w.heap.size w V ∧ V.heap.size = z + 1 + 1 + 1 := by
  subst hz
  have z1 : (w.alloc (.cells (intCells p).toArray 3)).heap.size = w.heap.size + 1 := by simp
  have z2 : ((w.alloc (.cells (intCells p).toArray 3)).alloc (.cells (intCells q).toArray 3)).heap.size = w.heap.size + 1 + 1 := by simp
  have f0 : V.heap[w.heap.size]? = some (.cells (intCells p).toArray 3 (0, 0)) := by rw [← hV]; exact alloc_old (alloc_old (alloc_new w _) _) _
  have f1 : V.heap[w.heap.size + 1]? = some (.cells (intCells q).toArray 3 (0, 0)) := by
    have := alloc_new (w.alloc (.cells (intCells p).toArray 3)) (.cells (intCells q).toArray 3)
    rw [z1] at this
    rw [← hV]
    exact alloc_old this _
  have f2 : V.heap[w.heap.size + 1 + 1]? = some (.cells (rowCells (litRow w.heap.size p :: litRow (w.heap.size + 1) q :: rest)).toArray 26 (0, 0)) := by
    have := alloc_new ((w.alloc (.cells (intCells p).toArray 3)).alloc (.cells (intCells q).toArray 3)) (.cells (rowCells (litRow w.heap.size p :: litRow (w.heap.size + 1) q :: rest)).toArray 26)
    rw [z2, hV] at this
    exact this
  refine ⟨rows_blk rfl f2 (by simp; omega) ?_, by rw [← hV]; exact bl_alloc (bl_alloc (bl_alloc (Below.refl _ _) _) _) _, by rw [← hV]; simp⟩
  intro r hr2
  rcases List.mem_cons.1 hr2 with rfl | hr2
  · exact lit_each f0 hp hpl hpw
  · rcases List.mem_cons.1 hr2 with rfl | hr2
    · exact lit_each f1 hq hql hqw
    · rw [hrest r hr2]
      exact ⟨Nat.le_refl _, by decide, fun _ => ⟨rfl, rfl⟩, rfl, by decide, fun h => absurd h (by decide), fun z hz => by cases hz⟩
theorem awake_merge : mergeA pAwake [[1, 4], [2, 4], []] = [1, 2, 4, 4] := by kernel_rfl
set_option maxHeartbeats 4000000 in
theorem awake_any (w : World) : Calls Try.prog 8 #[] w fun e w' => e = .returned (.bool true) ∧ Below w.heap.size w w' := by
  go_enter Try.func8, Try.ntmps8
  go_wp2_with fail
  refine (mergeAwake _ _ _ _).mono ?_
  rintro e w1 ⟨rfl, hw1⟩
  obtain ⟨V, hV⟩ : ∃ V, ((w.alloc (.cells #[.int .i64 1, .int .i64 4] 3)).alloc (.cells #[.int .i64 2, .int .i64 4] 3)).alloc (.cells #[.slice (some ⟨w.heap.size, 0, none⟩) 2 2, .slice (some ⟨w.heap.size + 1, 0, none⟩) 2 2, .slice none 0 0] 26) = V := ⟨_, rfl⟩
  simp only [hV] at hw1 ⊢
  have hlit := lit_two w _ rfl [1, 4] [2, 4] [⟨none, 0, 0, []⟩] (by decide) (by decide) (by decide) (by decide) (by decide) (by simp) (by decide) (by decide) V hV
  obtain ⟨hR, hbV, hVz⟩ := hlit
  have q0 := alloc_old (alloc_new V (.cells #[.func (.func 22) #[] #[]] 32)) (.cells #[.slice (some ⟨w.heap.size + 1 + 1, 0, none⟩) 3 3] 22)
  have q1 := alloc_new (V.alloc (.cells #[.func (.func 22) #[] #[]] 32)) (.cells #[.slice (some ⟨w.heap.size + 1 + 1, 0, none⟩) 3 3] 22)
  rw [World.size_alloc] at q1
  have hb1 := bl_alloc (bl_alloc (Below.refl _ V) (.cells #[.func (.func 22) #[] #[]] 32)) (.cells #[.slice (some ⟨w.heap.size + 1 + 1, 0, none⟩) 3 3] 22)
  rw [← hw1] at q0 q1 hb1
  have hR1 := hR.below hb1
  have hbw := bl_then hbV hb1
  have hall := allAwake (rs := litRow w.heap.size [1, 4] :: litRow (w.heap.size + 1) [2, 4] :: [⟨none, 0, 0, []⟩]) (nr := 3) (by decide) (show sumL [[1, 4], [2, 4], []] ≤ 1000000 by decide) w1 q1 q0 hR1
  rw [show nums (litRow w.heap.size [1, 4] :: litRow (w.heap.size + 1) [2, 4] :: [⟨none, 0, 0, []⟩]) = [[1, 4], [2, 4], []] from rfl, awake_merge] at hall
  have HALL := Lib.hid hall
  have HBW := Lib.hid hbw
  clear hall q0 q1 hb1 hR1 hR hbV hVz hw1 hV hbw
  go_wp2_with fail
  refine HALL.out.mono ?_
  rintro e w2 ⟨v, rfl, hrow, hb2⟩
  obtain ⟨A, c, rfl⟩ := own_form hrow
  have hb := bl_then HBW.out hb2
  have hI := IntsAt.of_own (hrow.alloc (.cells #[.int .i64 1, .int .i64 2, .int .i64 4, .int .i64 4] 3)) (by decide) (by decide)
  have hK := ints_blk (l := [1, 2, 4, 4]) rfl (alloc_new w2 (.cells #[.int .i64 1, .int .i64 2, .int .i64 4, .int .i64 4] 3)) (by decide) (by decide)
  have hb3 := bl_alloc hb (.cells #[.int .i64 1, .int .i64 2, .int .i64 4, .int .i64 4] 3)
  have HI := Lib.hid hI
  have HK := Lib.hid hK
  have HB3 := Lib.hid hb3
  clear hI hK hb3 hrow hb2 hb HALL
  go_wp2_with fail
  refine (samerow_any HI.out HK.out true (by decide)).mono ?_
  rintro e w3 ⟨rfl, hb3⟩
  have hb4 := bl_then HB3.out hb3
  clear HI HK HB3 hb3
  go_wp2_with fail
  obtain ⟨V5, hV5⟩ : ∃ V5, ((w3.alloc (.cells #[.int .i64 1, .int .i64 2] 3)).alloc (.cells #[.int .i64 3] 3)).alloc (.cells #[.slice (some ⟨w3.heap.size, 0, none⟩) 2 2, .slice (some ⟨w3.heap.size + 1, 0, none⟩) 1 1] 26) = V5 := ⟨_, rfl⟩
  obtain ⟨hR5, hb5, hz5⟩ := lit_two w3 _ rfl [1, 2] [3] [] (by decide) (by decide) (by decide) (by decide) (by decide) (by simp) (by decide) (by decide) V5 hV5
  simp only [hV5]
  obtain ⟨V6, hV6⟩ : ∃ V6, ((V5.alloc (.cells #[.int .i64 1] 3)).alloc (.cells #[.int .i64 9] 3)).alloc (.cells #[.slice (some ⟨w3.heap.size + 1 + 1 + 1, 0, none⟩) 1 1, .slice (some ⟨w3.heap.size + 1 + 1 + 1 + 1, 0, none⟩) 1 1] 26) = V6 := ⟨_, rfl⟩
  obtain ⟨hR6, hb6, _⟩ := lit_two V5 _ hz5 [1] [9] [] (by decide) (by decide) (by decide) (by decide) (by decide) (by simp) (by decide) (by decide) V6 hV6
  simp only [hV6]
  have hcmp := fun c d => tcmp_any (c := c) (d := d) (hR5.below hb6) hR6
  rw [show cmpLL (nums (litRow w3.heap.size [1, 2] :: litRow (w3.heap.size + 1) [3] :: [])) (nums (litRow (w3.heap.size + 1 + 1 + 1) [1] :: litRow (w3.heap.size + 1 + 1 + 1 + 1) [9] :: [])) = 1 from rfl] at hcmp
  have hb7 := bl_then (bl_then hb4 hb5) hb6
  refine (hcmp 2 2).mono ?_
  rintro e w7 ⟨rfl, rfl⟩
  clear hcmp hR5 hR6 hb5 hb6 hV5 hV6 hb4
  go_wp2_with fail
  go_ret
  exact ⟨rfl, hb7⟩
end Go.Proofs.Ytmiijnemacgbiaa
