/- Chapter 6: Merge. (Printed by tupgen.py.) -/
import Derived.Test.YtmiijnemacgbiaaTupB
import Derived.RangeFuncNested
import Derived.RangeFuncBound
import Derived.RangeFuncCalls
import Derived.RangeFuncLeaves
import Derived.RangeFuncFrom
import Derived.RangeFuncBox
import Derived.Shelf.Abstract
import Derived.OwnWalkIn
import Derived.TacticsInMore
import Derived.LoopNIn
import Derived.LoopIn
import Derived.Sort.QuietIn
namespace Go.Proofs.Ytmiijnemacgbiaa
open Go.RowKit Go.Shelf
set_option linter.unusedVariables false
set_option linter.unusedSimpArgs false
attribute [local go_sem] Oper.semAt_some

def pLess (x y : Int) : Bool := decide (x / 8 < y / 8)
def pAwake (x y : Int) : Bool := decide (x < y)
theorem fnLess (x y : Int) (w : World) : Calls Try.prog 13 #[.int .i64 x, .int .i64 y] w fun e w' => e = .returned (.bool (pLess x y)) ∧ w' = w := by
  go_enter Try.func13, Try.ntmps13
  go_wp2_with fail
  go_ret
  exact ⟨rfl, rfl⟩
theorem fnAwake (x y : Int) (w : World) : Calls Try.prog 22 #[.int .i64 x, .int .i64 y] w fun e w' => e = .returned (.bool (pAwake x y)) ∧ w' = w := by
  go_enter Try.func22, Try.ntmps22
  go_wp2_with fail
  go_ret
  exact ⟨rfl, rfl⟩
theorem nums_getD {rs : List RowV} {i : Nat} {r : RowV} (h : rs[i]? = some r) : (nums rs).getD i [] = r.zs := by rw [List.getD_eq_getElem?_getD, nums_at h]; rfl
theorem IntsAt.head {w : World} {a : Option Addr} {n : Nat} {zs : List Int} (h : IntsAt w a n zs) (hn : 0 < n) : ∃ b off, a = some ⟨b, off, none⟩ ∧ w.cell? ⟨b, off, none⟩ = some (.int .i64 (headI zs)) := by
  obtain ⟨b, off, rfl, _, hc⟩ := h.cells hn
  exact ⟨b, off, rfl, hc 0 hn⟩
set_option maxRecDepth 100000 in
set_option maxHeartbeats 4000000 in
theorem bestLess {w : World} {A : Option Addr} {n c : Nat} {rs : List RowV} (h : RowsAt w A n rs) :
    Calls Try.prog 28 #[.agg #[.slice A n c, .func (.func 13) #[] #[]]] w fun e w' => e = .returned (.int .i64 (bestI pLess (nums rs))) ∧ Below w.heap.size w w' := by
  have hsm := h.small
  have hlen : (nums rs).length = n := by rw [nums_length]; exact h.len
  obtain ⟨X, hX⟩ : ∃ X, bestI pLess (nums rs) = X := ⟨_, rfl⟩
  rw [hX]
  have HX : Hid (bestTo pLess (nums rs) n = X) := Lib.hid (by rw [← hlen]; exact hX)
  have H := Lib.hid h
  have HF : Hid (∀ x y w, Calls Try.prog 13 #[.int .i64 x, .int .i64 y] w fun e w' => e = .returned (.bool (pLess x y)) ∧ w' = w) := Lib.hid fnLess
  clear h hX hlen
  go_enter Try.func28, Try.ntmps28
  go_wp2_with fail
  have hb0 := alloc_new w (.cells #[.slice A n c, .func (.func 13) #[] #[]] 44)
  have c0 := cell_of_blk hb0 0
  have hbl0 := bl_alloc (Below.refl _ w) (.cells #[.slice A n c, .func (.func 13) #[] #[]] 44)
  obtain ⟨bx, hbx⟩ : ∃ bx, w.heap.size = bx := ⟨_, rfl⟩
  have H0 := Lib.hid (H.out.below hbl0)
  have HBX := Lib.hid hbx
  rw [hbx] at hb0 c0
  simp only [hbx]
  clear hbx
  generalize w.alloc (.cells #[.slice A n c, .func (.func 13) #[] #[]] 44) = w0 at *
  have HB0 := Lib.hid hb0
  have HBL0 := Lib.hid hbl0
  clear hb0 c0 hbl0 H
  go_loopw [3, 9] (fun v i wr => ∃ I : Nat, I ≤ n ∧ i = .int .i64 I ∧ v = .int .i64 (bestTo pLess (nums rs) I) ∧ Below w0.heap.size w0 wr) (fun _ i _ => n - (intOf i).toNat)
  case atStart => exact ⟨0, Nat.zero_le _, rfl, rfl, Below.refl _ _⟩
  case round =>
    obtain ⟨I, hI, rfl, rfl, hb⟩ := hrel
    by_cases hlt : I < n
    · have hrt := H0.out.below hb
      obtain ⟨g, off, rfl, hg, hc⟩ := hrt.cells (by omega)
      have hri : I < rs.length := by rw [hrt.len]; exact hlt
      obtain ⟨r, hr1⟩ : ∃ r, rs[I]? = some r := ⟨_, List.getElem?_eq_getElem hri⟩
      have c1 := hc I r hr1
      have hbk := hb.block bx (block_lt HB0.out)
      have hbk := hbk.trans HB0.out
      have x0 := cell_of_blk hbk 0
      have x1 := cell_of_blk hbk 1
      have ht1 := (hrt.each r (List.mem_of_getElem? hr1)).2.2.2
      have hg1 := nums_getD hr1
      have hln := ht1.len
      have hstep : bestTo pLess (nums rs) (I + 1) = if r.n = 0 then bestTo pLess (nums rs) I else if bestTo pLess (nums rs) I < 0 then (I : Int) else if pLess (headI r.zs) (headI ((nums rs).getD (bestTo pLess (nums rs) I).toNat [])) = true then (I : Int) else bestTo pLess (nums rs) I := by
        show (if ((nums rs).getD I []).length = 0 then _ else _) = _
        rw [hg1, hln]
      have hbis := bestTo_is pLess (nums rs) I
      have iI : (I : Int) < n := by omega
      obtain ⟨ra, rn, rc, rz⟩ := r
      dsimp only at c1 ht1 hstep hln
      have HS := Lib.hid hstep
      have HC := Lib.hid hc
      have HT1 := Lib.hid ht1
      clear hr1 hri hbk hg1 hstep hc hln ht1
      by_cases hn0 : rn = 0
      · subst hn0
        have hs := HS.out
        rw [if_pos rfl] at hs
        have HS2 := Lib.hid hs
        generalize bestTo pLess (nums rs) I = b at *
        clear hs HS hbis
        go_wp2_with fail
        go_quiet (fail)
        go_wp2_with fail
        exact ⟨⟨I + 1, hlt, by simp, by rw [HS2.out], bl_drewN hb _⟩, by simp [intOf]; omega⟩
      · obtain ⟨g1, o1, rfl, y1⟩ := HT1.out.head (by omega)
        have in0 : (0 : Int) < rn := by omega
        have in1 : 0 < rn := by omega
        have hs := HS.out
        rw [if_neg hn0] at hs
        rcases hbis with hb1 | ⟨B, hB1, hB2, hB3⟩
        · rw [hb1] at hs ⊢
          rw [if_pos (by decide)] at hs
          have HS2 := Lib.hid hs
          clear hs HS hb1 hn0
          go_wp2_with fail
          go_quiet (fail)
          go_wp2_with fail
          exact ⟨⟨I + 1, hlt, by simp, by rw [HS2.out], bl_drewN hb _⟩, by simp [intOf]; omega⟩
        · rw [hB2] at hs ⊢
          have hqi : B < rs.length := by rw [hrt.len]; omega
          obtain ⟨q, hq1⟩ : ∃ q, rs[B]? = some q := ⟨_, List.getElem?_eq_getElem hqi⟩
          have hg2 := nums_getD hq1
          have c2 := HC.out B q hq1
          have ht2 := (hrt.each q (List.mem_of_getElem? hq1)).2.2.2
          rw [if_neg (by omega), Int.toNat_natCast, hg2] at hs
          rw [hg2, ht2.len] at hB3
          obtain ⟨qa, qn, qc, qz⟩ := q
          dsimp only at c2 ht2 hs hB3
          obtain ⟨g3, o3, rfl, y2⟩ := ht2.head hB3
          have iB : (B : Int) < n := by omega
          have iq : (0 : Int) < qn := by omega
          have iq1 : 0 < qn := by omega
          have d0 : decide ((B : Int) < 0) = false := decide_eq_false (by omega)
          generalize headI rz = hx at *
          generalize headI qz = hy at *
          have HS2 := Lib.hid hs
          clear hs HS hB2 hq1 hqi hg2 ht2 hn0 hB3
          cases hp : pLess hx hy with
          | true =>
            have hs := HS2.out
            rw [hp, if_pos rfl] at hs
            have HS3 := Lib.hid hs
            have HP := Lib.hid hp
            have HFP : Hid (∀ w, Calls Try.prog 13 #[.int .i64 hx, .int .i64 hy] w fun e w' => e = .returned (.bool true) ∧ w' = w) := Lib.hid (by intro w; have := HF.out hx hy w; rwa [hp] at this)
            clear hs hp HS2
            go_wp2_with fail
            go_quiet ((go_at_call 13; exact Calls.quiet_of_same (HFP.out _)))
            go_wp2_with fail
            exact ⟨⟨I + 1, hlt, by simp, by rw [HS3.out], bl_drewN hb _⟩, by simp [intOf]; omega⟩
          | false =>
            have hs := HS2.out
            rw [hp, if_neg (by decide)] at hs
            have HS3 := Lib.hid hs
            have HFP : Hid (∀ w, Calls Try.prog 13 #[.int .i64 hx, .int .i64 hy] w fun e w' => e = .returned (.bool false) ∧ w' = w) := Lib.hid (by intro w; have := HF.out hx hy w; rwa [hp] at this)
            clear hs hp HS2
            go_wp2_with fail
            go_quiet ((go_at_call 13; exact Calls.quiet_of_same (HFP.out _)))
            go_wp2_with fail
            exact ⟨⟨I + 1, hlt, by simp, by rw [HS3.out], bl_drewN hb _⟩, by simp [intOf]; omega⟩
    · obtain rfl : I = n := by omega
      have iI : ¬ (I : Int) < I := by omega
      rw [HX.out]
      go_wp2_with fail
      go_ret
      exact ⟨rfl, bl_then HBL0.out (hb)⟩
set_option maxRecDepth 100000 in
set_option maxHeartbeats 4000000 in
theorem bestAwake {w : World} {A : Option Addr} {n c : Nat} {rs : List RowV} (h : RowsAt w A n rs) :
    Calls Try.prog 28 #[.agg #[.slice A n c, .func (.func 22) #[] #[]]] w fun e w' => e = .returned (.int .i64 (bestI pAwake (nums rs))) ∧ Below w.heap.size w w' := by
  have hsm := h.small
  have hlen : (nums rs).length = n := by rw [nums_length]; exact h.len
  obtain ⟨X, hX⟩ : ∃ X, bestI pAwake (nums rs) = X := ⟨_, rfl⟩
  rw [hX]
  have HX : Hid (bestTo pAwake (nums rs) n = X) := Lib.hid (by rw [← hlen]; exact hX)
  have H := Lib.hid h
  have HF : Hid (∀ x y w, Calls Try.prog 22 #[.int .i64 x, .int .i64 y] w fun e w' => e = .returned (.bool (pAwake x y)) ∧ w' = w) := Lib.hid fnAwake
  clear h hX hlen
  go_enter Try.func28, Try.ntmps28
  go_wp2_with fail
  have hb0 := alloc_new w (.cells #[.slice A n c, .func (.func 22) #[] #[]] 44)
  have c0 := cell_of_blk hb0 0
  have hbl0 := bl_alloc (Below.refl _ w) (.cells #[.slice A n c, .func (.func 22) #[] #[]] 44)
  obtain ⟨bx, hbx⟩ : ∃ bx, w.heap.size = bx := ⟨_, rfl⟩
  have H0 := Lib.hid (H.out.below hbl0)
  have HBX := Lib.hid hbx
  rw [hbx] at hb0 c0
  simp only [hbx]
  clear hbx
  generalize w.alloc (.cells #[.slice A n c, .func (.func 22) #[] #[]] 44) = w0 at *
  have HB0 := Lib.hid hb0
  have HBL0 := Lib.hid hbl0
  clear hb0 c0 hbl0 H
  go_loopw [3, 9] (fun v i wr => ∃ I : Nat, I ≤ n ∧ i = .int .i64 I ∧ v = .int .i64 (bestTo pAwake (nums rs) I) ∧ Below w0.heap.size w0 wr) (fun _ i _ => n - (intOf i).toNat)
  case atStart => exact ⟨0, Nat.zero_le _, rfl, rfl, Below.refl _ _⟩
  case round =>
    obtain ⟨I, hI, rfl, rfl, hb⟩ := hrel
    by_cases hlt : I < n
    · have hrt := H0.out.below hb
      obtain ⟨g, off, rfl, hg, hc⟩ := hrt.cells (by omega)
      have hri : I < rs.length := by rw [hrt.len]; exact hlt
      obtain ⟨r, hr1⟩ : ∃ r, rs[I]? = some r := ⟨_, List.getElem?_eq_getElem hri⟩
      have c1 := hc I r hr1
      have hbk := hb.block bx (block_lt HB0.out)
      have hbk := hbk.trans HB0.out
      have x0 := cell_of_blk hbk 0
      have x1 := cell_of_blk hbk 1
      have ht1 := (hrt.each r (List.mem_of_getElem? hr1)).2.2.2
      have hg1 := nums_getD hr1
      have hln := ht1.len
      have hstep : bestTo pAwake (nums rs) (I + 1) = if r.n = 0 then bestTo pAwake (nums rs) I else if bestTo pAwake (nums rs) I < 0 then (I : Int) else if pAwake (headI r.zs) (headI ((nums rs).getD (bestTo pAwake (nums rs) I).toNat [])) = true then (I : Int) else bestTo pAwake (nums rs) I := by
        show (if ((nums rs).getD I []).length = 0 then _ else _) = _
        rw [hg1, hln]
      have hbis := bestTo_is pAwake (nums rs) I
      have iI : (I : Int) < n := by omega
      obtain ⟨ra, rn, rc, rz⟩ := r
      dsimp only at c1 ht1 hstep hln
      have HS := Lib.hid hstep
      have HC := Lib.hid hc
      have HT1 := Lib.hid ht1
      clear hr1 hri hbk hg1 hstep hc hln ht1
      by_cases hn0 : rn = 0
      · subst hn0
        have hs := HS.out
        rw [if_pos rfl] at hs
        have HS2 := Lib.hid hs
        generalize bestTo pAwake (nums rs) I = b at *
        clear hs HS hbis
        go_wp2_with fail
        go_quiet (fail)
        go_wp2_with fail
        exact ⟨⟨I + 1, hlt, by simp, by rw [HS2.out], bl_drewN hb _⟩, by simp [intOf]; omega⟩
      · obtain ⟨g1, o1, rfl, y1⟩ := HT1.out.head (by omega)
        have in0 : (0 : Int) < rn := by omega
        have in1 : 0 < rn := by omega
        have hs := HS.out
        rw [if_neg hn0] at hs
        rcases hbis with hb1 | ⟨B, hB1, hB2, hB3⟩
        · rw [hb1] at hs ⊢
          rw [if_pos (by decide)] at hs
          have HS2 := Lib.hid hs
          clear hs HS hb1 hn0
          go_wp2_with fail
          go_quiet (fail)
          go_wp2_with fail
          exact ⟨⟨I + 1, hlt, by simp, by rw [HS2.out], bl_drewN hb _⟩, by simp [intOf]; omega⟩
        · rw [hB2] at hs ⊢
          have hqi : B < rs.length := by rw [hrt.len]; omega
          obtain ⟨q, hq1⟩ : ∃ q, rs[B]? = some q := ⟨_, List.getElem?_eq_getElem hqi⟩
          have hg2 := nums_getD hq1
          have c2 := HC.out B q hq1
          have ht2 := (hrt.each q (List.mem_of_getElem? hq1)).2.2.2
          rw [if_neg (by omega), Int.toNat_natCast, hg2] at hs
          rw [hg2, ht2.len] at hB3
          obtain ⟨qa, qn, qc, qz⟩ := q
          dsimp only at c2 ht2 hs hB3
          obtain ⟨g3, o3, rfl, y2⟩ := ht2.head hB3
          have iB : (B : Int) < n := by omega
          have iq : (0 : Int) < qn := by omega
          have iq1 : 0 < qn := by omega
          have d0 : decide ((B : Int) < 0) = false := decide_eq_false (by omega)
          generalize headI rz = hx at *
          generalize headI qz = hy at *
          have HS2 := Lib.hid hs
          clear hs HS hB2 hq1 hqi hg2 ht2 hn0 hB3
          cases hp : pAwake hx hy with
          | true =>
            have hs := HS2.out
            rw [hp, if_pos rfl] at hs
            have HS3 := Lib.hid hs
            have HP := Lib.hid hp
            have HFP : Hid (∀ w, Calls Try.prog 22 #[.int .i64 hx, .int .i64 hy] w fun e w' => e = .returned (.bool true) ∧ w' = w) := Lib.hid (by intro w; have := HF.out hx hy w; rwa [hp] at this)
            clear hs hp HS2
            go_wp2_with fail
            go_quiet ((go_at_call 22; exact Calls.quiet_of_same (HFP.out _)))
            go_wp2_with fail
            exact ⟨⟨I + 1, hlt, by simp, by rw [HS3.out], bl_drewN hb _⟩, by simp [intOf]; omega⟩
          | false =>
            have hs := HS2.out
            rw [hp, if_neg (by decide)] at hs
            have HS3 := Lib.hid hs
            have HFP : Hid (∀ w, Calls Try.prog 22 #[.int .i64 hx, .int .i64 hy] w fun e w' => e = .returned (.bool false) ∧ w' = w) := Lib.hid (by intro w; have := HF.out hx hy w; rwa [hp] at this)
            clear hs hp HS2
            go_wp2_with fail
            go_quiet ((go_at_call 22; exact Calls.quiet_of_same (HFP.out _)))
            go_wp2_with fail
            exact ⟨⟨I + 1, hlt, by simp, by rw [HS3.out], bl_drewN hb _⟩, by simp [intOf]; omega⟩
    · obtain rfl : I = n := by omega
      have iI : ¬ (I : Int) < I := by omega
      rw [HX.out]
      go_wp2_with fail
      go_ret
      exact ⟨rfl, bl_then HBL0.out (hb)⟩
end Go.Proofs.Ytmiijnemacgbiaa
