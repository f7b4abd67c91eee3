/- Chapter 8: the walk of StepGuards. PRINTED by wip/tools/stguards.py. -/
import Derived.Test.YtecdnpdmjbcioaaStE
import Derived.Deep.RegionHeld3
namespace Go.Proofs.Ytecdnpdmjbcioaa
open Go.RowKit
set_option linter.unusedVariables false
set_option linter.unusedSimpArgs false

set_option maxHeartbeats 8000000 in
set_option maxRecDepth 100000 in
theorem guards_law (plus : Bool) (x least : Int) (w : World) (hx9 : -9223372036854775808 ≤ x ∧ x ≤ 9223372036854775807) (hl9 : -9223372036854775808 ≤ least ∧ least ≤ 9223372036854775807) :
    Calls Try.prog 5 #[.bool plus, .int .i64 x, .int .i64 least] w fun e w' => e = .returned (.bool true) ∧ Below w.heap.size w w' := by
  clear hx9 hl9
  obtain ⟨m, hm⟩ : ∃ m, decide (least ≤ x) = m := ⟨_, rfl⟩
  have HMM := Lib.hid hm
  clear hm
  go_enter Try.func5, Try.ntmps5
  go_wp2_with fail
  refine (awake_any _).mono ?_
  rintro e w1 ⟨rfl, hb1⟩
  have HB1 := Lib.hid hb1
  clear hb1
  go_upto_region 5 with fail
  have HL : Hid (Laid plus x least (w1.heap.size + 1 + 1) (w1.heap.size + 1 + 1 + 1) (w1.heap.size + 1 + 1 + 1 + 1 + 1) (w1.heap.size + 1 + 1 + 1 + 1 + 1 + 1) (w1.heap.size + 1 + 1 + 1 + 1 + 1 + 1 + 1) (w1.heap.size) (w1.heap.size + 1) (w1.heap.size + 1 + 1 + 1 + 1) ((((((((w1.alloc (.cells #[.int .i64 7, .int .i64 0, .string ⟨#[]⟩, .int .i64 0, .int .i64 2] 56)).alloc (.cells #[.int .i64 6, .int .i64 least, .string ⟨#[]⟩, .int .i64 0, .int .i64 0] 56)).alloc (.cells #[.int .i64 6, .slice (some ⟨w1.heap.size, 0, none⟩) 1 1, .slice (some ⟨w1.heap.size + 1, 0, none⟩) 1 1] 59)).alloc (.cells #[.int .i64 6, .slice (some ⟨w1.heap.size, 0, none⟩) 1 1, .slice (some ⟨w1.heap.size + 1, 0, none⟩) 1 1] 59)).alloc (.cells #[.int .i64 2, .slice (some ⟨w1.heap.size + 1 + 1 + 1, 0, none⟩) 1 1] 61)).alloc (.cells #[.int .i64 0, .bool plus, .slice none 0 0, .slice (some ⟨w1.heap.size + 1 + 1 + 1 + 1, 0, none⟩) 1 1, .int .i64 1, .bool false, .slice none 0 0, .slice none 0 0] 49)).alloc (.cells #[.slice (some ⟨w1.heap.size + 1 + 1 + 1 + 1 + 1, 0, none⟩) 2 2, .int .i64 8, .bool false] 26)).alloc (.cells #[.int .i64 0, .int .i64 0, .int .i64 0, .int .i64 0, .int .i64 0, .int .i64 0, .int .i64 2, .int .i64 0, .int .i64 x, .int .i64 0, .int .i64 0, .int .i64 0, .int .i64 1, .int .i64 0, .int .i64 0, .int .i64 0, .int .i64 0, .int .i64 0] 53))) := Lib.hid (Laid.make (alloc_old (alloc_old (alloc_old (alloc_old (alloc_old (alloc_old (alloc_old (alloc_new w1 _) _) _) _) _) _) _) _) (alloc_old (alloc_old (alloc_old (alloc_old (alloc_old (alloc_old (alloc_at (by simp) _) _) _) _) _) _) _) (alloc_old (alloc_old (alloc_old (alloc_old (alloc_old (alloc_at (by simp) _) _) _) _) _) _) (alloc_old (alloc_old (alloc_old (alloc_old (alloc_at (by simp) _) _) _) _) _) (alloc_old (alloc_old (alloc_old (alloc_at (by simp) _) _) _) _) (alloc_old (alloc_old (alloc_at (by simp) _) _) _) (alloc_old (alloc_at (by simp) _) _) (alloc_at (by simp) _))
  have HB2 := Lib.hid (bl_then HB1.out (show Below w1.heap.size w1 ((((((((w1.alloc (.cells #[.int .i64 7, .int .i64 0, .string ⟨#[]⟩, .int .i64 0, .int .i64 2] 56)).alloc (.cells #[.int .i64 6, .int .i64 least, .string ⟨#[]⟩, .int .i64 0, .int .i64 0] 56)).alloc (.cells #[.int .i64 6, .slice (some ⟨w1.heap.size, 0, none⟩) 1 1, .slice (some ⟨w1.heap.size + 1, 0, none⟩) 1 1] 59)).alloc (.cells #[.int .i64 6, .slice (some ⟨w1.heap.size, 0, none⟩) 1 1, .slice (some ⟨w1.heap.size + 1, 0, none⟩) 1 1] 59)).alloc (.cells #[.int .i64 2, .slice (some ⟨w1.heap.size + 1 + 1 + 1, 0, none⟩) 1 1] 61)).alloc (.cells #[.int .i64 0, .bool plus, .slice none 0 0, .slice (some ⟨w1.heap.size + 1 + 1 + 1 + 1, 0, none⟩) 1 1, .int .i64 1, .bool false, .slice none 0 0, .slice none 0 0] 49)).alloc (.cells #[.slice (some ⟨w1.heap.size + 1 + 1 + 1 + 1 + 1, 0, none⟩) 2 2, .int .i64 8, .bool false] 26)).alloc (.cells #[.int .i64 0, .int .i64 0, .int .i64 0, .int .i64 0, .int .i64 0, .int .i64 0, .int .i64 2, .int .i64 0, .int .i64 x, .int .i64 0, .int .i64 0, .int .i64 0, .int .i64 1, .int .i64 0, .int .i64 0, .int .i64 0, .int .i64 0, .int .i64 0] 53)) from bl_alloc (bl_alloc (bl_alloc (bl_alloc (bl_alloc (bl_alloc (bl_alloc (bl_alloc (Below.refl _ _) _) _) _) _) _) _) _) _))
  generalize ((((((((w1.alloc (.cells #[.int .i64 7, .int .i64 0, .string ⟨#[]⟩, .int .i64 0, .int .i64 2] 56)).alloc (.cells #[.int .i64 6, .int .i64 least, .string ⟨#[]⟩, .int .i64 0, .int .i64 0] 56)).alloc (.cells #[.int .i64 6, .slice (some ⟨w1.heap.size, 0, none⟩) 1 1, .slice (some ⟨w1.heap.size + 1, 0, none⟩) 1 1] 59)).alloc (.cells #[.int .i64 6, .slice (some ⟨w1.heap.size, 0, none⟩) 1 1, .slice (some ⟨w1.heap.size + 1, 0, none⟩) 1 1] 59)).alloc (.cells #[.int .i64 2, .slice (some ⟨w1.heap.size + 1 + 1 + 1, 0, none⟩) 1 1] 61)).alloc (.cells #[.int .i64 0, .bool plus, .slice none 0 0, .slice (some ⟨w1.heap.size + 1 + 1 + 1 + 1, 0, none⟩) 1 1, .int .i64 1, .bool false, .slice none 0 0, .slice none 0 0] 49)).alloc (.cells #[.slice (some ⟨w1.heap.size + 1 + 1 + 1 + 1 + 1, 0, none⟩) 2 2, .int .i64 8, .bool false] 26)).alloc (.cells #[.int .i64 0, .int .i64 0, .int .i64 0, .int .i64 0, .int .i64 0, .int .i64 0, .int .i64 2, .int .i64 0, .int .i64 x, .int .i64 0, .int .i64 0, .int .i64 0, .int .i64 1, .int .i64 0, .int .i64 0, .int .i64 0, .int .i64 0, .int .i64 0] 53)) = w2 at *
  have HS5 : Hid (∀ W, Below w2.heap.size w2 W → W.cell? ⟨w1.heap.size + 1 + 1 + 1 + 1 + 1 + 1, 0, none⟩ = some (.slice (some ⟨w1.heap.size + 1 + 1 + 1 + 1 + 1, 0, none⟩) 2 2) ∧ W.cell? ⟨w1.heap.size + 1 + 1 + 1 + 1 + 1 + 1, 1, none⟩ = some (.int .i64 8) ∧ W.cell? ⟨w1.heap.size + 1 + 1 + 1 + 1 + 1 + 1, 2, none⟩ = some (.bool false)) := Lib.hid fun W hW => three_of ((hW.block _ (block_lt HL.out.box)).trans HL.out.box)
  have hrun5 : RunAt (((w2.alloc (.cells #[.int .i64 0] 3)).alloc (.cells #[.slice (some ⟨w2.heap.size, 0, none⟩) 1 1] 22)).drew) (w2.heap.size + 1) w2.heap.size 0 1 := run_of_blks (alloc_at (by simp) _) (alloc_old (alloc_new w2 _) _)
  have HRUN5 := Lib.hid hrun5
  clear hrun5
  go_region_held3 (fun w' => w'.cell? ⟨w1.heap.size + 1 + 1 + 1 + 1 + 1 + 1, 0, none⟩ = some (.slice (some ⟨w1.heap.size + 1 + 1 + 1 + 1 + 1, 0, none⟩) 2 2) ∧ w'.cell? ⟨w1.heap.size + 1 + 1 + 1 + 1 + 1 + 1, 1, none⟩ = some (.int .i64 8) ∧ w'.cell? ⟨w1.heap.size + 1 + 1 + 1 + 1 + 1 + 1, 2, none⟩ = some (.bool false))
    (first | exact hs3 | exact HS5.out _ (bl_drew (bl_alloc (bl_alloc (Below.refl _ _) _) _)) | exact HS5.out _ (bl_drew (bl_alloc (Below.refl _ _) _)) | exact HS5.out _ (bl_drew (Below.refl _ _)))
    (first
      | (go_at_call 14; go_loud (refine (HL.out.call1 m HMM.out (bl_drew (bl_alloc (bl_alloc (Below.refl _ _) _) _)) HRUN5.out (Nat.le_refl _)).mono ?_); rintro e w3 ⟨v, l, rfl, hb3, hph⟩; have hs3 := HS5.out _ hb3))
  have HB23 := Lib.hid hb3
  have HPH := Lib.hid hph
  clear hs3 hb3 hph
  go_upto_region 6 with fail
  go_cut [12] (fun v wx => v = .bool m ∧ Below w3.heap.size w3 wx)
  case first =>
    have HS6 : Hid (∀ W, Below w3.heap.size w3 W → W.cell? ⟨w1.heap.size + 1 + 1, 0, none⟩ = some (.int .i64 6) ∧ W.cell? ⟨w1.heap.size + 1 + 1, 1, none⟩ = some (.slice (some ⟨w1.heap.size, 0, none⟩) 1 1) ∧ W.cell? ⟨w1.heap.size + 1 + 1, 2, none⟩ = some (.slice (some ⟨w1.heap.size + 1, 0, none⟩) 1 1)) := Lib.hid fun W hW' => by
      have hW := bl_then HB23.out hW'
      exact three_of ((hW.block _ (block_lt HL.out.rule)).trans HL.out.rule)
    go_region_held3 (fun w' => w'.cell? ⟨w1.heap.size + 1 + 1, 0, none⟩ = some (.int .i64 6) ∧ w'.cell? ⟨w1.heap.size + 1 + 1, 1, none⟩ = some (.slice (some ⟨w1.heap.size, 0, none⟩) 1 1) ∧ w'.cell? ⟨w1.heap.size + 1 + 1, 2, none⟩ = some (.slice (some ⟨w1.heap.size + 1, 0, none⟩) 1 1))
      (first | exact hs6 | exact HS6.out _ (bl_drew (bl_alloc (bl_alloc (Below.refl _ _) _) _)) | exact HS6.out _ (bl_drew (bl_alloc (Below.refl _ _) _)) | exact HS6.out _ (bl_drew (Below.refl _ _)))
      (first
        | (go_at_call 17; go_loud (refine (HL.out.all (bl_then HB23.out (bl_drew (bl_alloc (bl_alloc (Below.refl _ _) _) _))) (by first | exact alloc_old (alloc_new w3 _) _ | exact alloc_at (by simp) _) (by first | exact alloc_old (alloc_new w3 _) _ | exact alloc_at (by simp) _)).mono ?_); rintro e w4 ⟨rfl, hb4⟩; have hb4' := bl_then (bl_drew (bl_alloc (bl_alloc (Below.refl _ w3) _) _)) hb4; have hs6 := HS6.out _ hb4'))
    all_goals
      go_wp2_with fail
      go_meet
    all_goals exact ⟨by rw [HMM.out], hb4'⟩
  case rest =>
    obtain ⟨rfl, hb6⟩ := hcut
    rename World => w6
    have HB36 := Lib.hid hb6
    have HB26 := Lib.hid (bl_then HB23.out hb6)
    have HB6 := Lib.hid (bl_then HB2.out HB26.out)
    clear hb6
    cases hmv : m <;> cases hpv : plus
    all_goals subst hmv hpv
    · skip
      have hph : Ph _ w3 v l true false false false := HPH.out
      obtain ⟨g, c, X, i, ci, rfl, hg3, hc, e0, e1, e2, hrun, hci⟩ := hph.run0 1 rfl
      have hg6 := Nat.lt_of_lt_of_le hg3 HB36.out.size
      have g0 := (HB36.out.cell (p := ⟨g, 0, none⟩) hg3).trans e0
      have g1 := (HB36.out.cell (p := ⟨g, 1, none⟩) hg3).trans e1
      have g2 := (HB36.out.cell (p := ⟨g, 2, none⟩) hg3).trans e2
      have HRUN := Lib.hid (hrun.below HB36.out)
      clear hph e0 e1 e2 hrun HPH
      have HS11 : Hid (∀ W, Below w6.heap.size w6 W → (W.cell? ⟨w1.heap.size + 1 + 1 + 1 + 1 + 1 + 1, 0, none⟩ = some (.slice (some ⟨w1.heap.size + 1 + 1 + 1 + 1 + 1, 0, none⟩) 2 2) ∧ W.cell? ⟨w1.heap.size + 1 + 1 + 1 + 1 + 1 + 1, 1, none⟩ = some (.int .i64 8) ∧ W.cell? ⟨w1.heap.size + 1 + 1 + 1 + 1 + 1 + 1, 2, none⟩ = some (.bool false)) ∧ W.cell? ⟨g, 0, none⟩ = some (.int .i64 0) ∧ W.cell? ⟨g, 1, none⟩ = some (.slice (some ⟨X, 0, none⟩) 1 1) ∧ W.cell? ⟨g, 2, none⟩ = some (.bool false)) := Lib.hid fun W hW' => by
        have hW := bl_then HB26.out hW'
        exact ⟨three_of ((hW.block _ (block_lt HL.out.box)).trans HL.out.box), (hW'.cell (p := ⟨g, 0, none⟩) hg6).trans g0, (hW'.cell (p := ⟨g, 1, none⟩) hg6).trans g1, (hW'.cell (p := ⟨g, 2, none⟩) hg6).trans g2⟩
      go_wp2_with fail
      go_region_held3 (fun w' => (w'.cell? ⟨w1.heap.size + 1 + 1 + 1 + 1 + 1 + 1, 0, none⟩ = some (.slice (some ⟨w1.heap.size + 1 + 1 + 1 + 1 + 1, 0, none⟩) 2 2) ∧ w'.cell? ⟨w1.heap.size + 1 + 1 + 1 + 1 + 1 + 1, 1, none⟩ = some (.int .i64 8) ∧ w'.cell? ⟨w1.heap.size + 1 + 1 + 1 + 1 + 1 + 1, 2, none⟩ = some (.bool false)) ∧ w'.cell? ⟨g, 0, none⟩ = some (.int .i64 0) ∧ w'.cell? ⟨g, 1, none⟩ = some (.slice (some ⟨X, 0, none⟩) 1 1) ∧ w'.cell? ⟨g, 2, none⟩ = some (.bool false))
        (first | exact hs7 | exact HS11.out _ (bl_drew (Below.refl _ _)))
        (first
          | (go_at_call 14; go_loud (refine (HL.out.call2 false (fun h => (by cases h)) (bl_drew HB26.out) (HRUN.out.below (bl_drew (Below.refl _ _))) hci).mono ?_); rintro e w7 ⟨v7, l7, rfl, hb7, hph7⟩; have hb7' : Below w6.heap.size w6 w7 := bl_then (bl_drew (Below.refl _ _)) hb7; have hs7 := HS11.out _ hb7'))
      obtain ⟨g7, c7, rfl, hc7, k2, k3, k5⟩ := hph7.run1 1 false rfl
      have HBE := Lib.hid (bl_then HB6.out hb7')
      clear hph7 hb7' hs7 hb7
      go_wp2_with fail
      go_ret
      exact ⟨rfl, HBE.out⟩
    · skip
      have hph : Ph _ w3 v l true false false false := HPH.out
      obtain ⟨g, c, X, i, ci, rfl, hg3, hc, e0, e1, e2, hrun, hci⟩ := hph.run0 1 rfl
      have hg6 := Nat.lt_of_lt_of_le hg3 HB36.out.size
      have g0 := (HB36.out.cell (p := ⟨g, 0, none⟩) hg3).trans e0
      have g1 := (HB36.out.cell (p := ⟨g, 1, none⟩) hg3).trans e1
      have g2 := (HB36.out.cell (p := ⟨g, 2, none⟩) hg3).trans e2
      have HRUN := Lib.hid (hrun.below HB36.out)
      clear hph e0 e1 e2 hrun HPH
      have HS11 : Hid (∀ W, Below w6.heap.size w6 W → (W.cell? ⟨w1.heap.size + 1 + 1 + 1 + 1 + 1 + 1, 0, none⟩ = some (.slice (some ⟨w1.heap.size + 1 + 1 + 1 + 1 + 1, 0, none⟩) 2 2) ∧ W.cell? ⟨w1.heap.size + 1 + 1 + 1 + 1 + 1 + 1, 1, none⟩ = some (.int .i64 8) ∧ W.cell? ⟨w1.heap.size + 1 + 1 + 1 + 1 + 1 + 1, 2, none⟩ = some (.bool false)) ∧ W.cell? ⟨g, 0, none⟩ = some (.int .i64 0) ∧ W.cell? ⟨g, 1, none⟩ = some (.slice (some ⟨X, 0, none⟩) 1 1) ∧ W.cell? ⟨g, 2, none⟩ = some (.bool false)) := Lib.hid fun W hW' => by
        have hW := bl_then HB26.out hW'
        exact ⟨three_of ((hW.block _ (block_lt HL.out.box)).trans HL.out.box), (hW'.cell (p := ⟨g, 0, none⟩) hg6).trans g0, (hW'.cell (p := ⟨g, 1, none⟩) hg6).trans g1, (hW'.cell (p := ⟨g, 2, none⟩) hg6).trans g2⟩
      go_wp2_with fail
      go_region_held3 (fun w' => (w'.cell? ⟨w1.heap.size + 1 + 1 + 1 + 1 + 1 + 1, 0, none⟩ = some (.slice (some ⟨w1.heap.size + 1 + 1 + 1 + 1 + 1, 0, none⟩) 2 2) ∧ w'.cell? ⟨w1.heap.size + 1 + 1 + 1 + 1 + 1 + 1, 1, none⟩ = some (.int .i64 8) ∧ w'.cell? ⟨w1.heap.size + 1 + 1 + 1 + 1 + 1 + 1, 2, none⟩ = some (.bool false)) ∧ w'.cell? ⟨g, 0, none⟩ = some (.int .i64 0) ∧ w'.cell? ⟨g, 1, none⟩ = some (.slice (some ⟨X, 0, none⟩) 1 1) ∧ w'.cell? ⟨g, 2, none⟩ = some (.bool false))
        (first | exact hs7 | exact HS11.out _ (bl_drew (Below.refl _ _)))
        (first
          | (go_at_call 14; go_loud (refine (HL.out.call2 false (fun h => (by cases h)) (bl_drew HB26.out) (HRUN.out.below (bl_drew (Below.refl _ _))) hci).mono ?_); rintro e w7 ⟨v7, l7, rfl, hb7, hph7⟩; have hb7' : Below w6.heap.size w6 w7 := bl_then (bl_drew (Below.refl _ _)) hb7; have hs7 := HS11.out _ hb7'))
      obtain ⟨g7, c7, rfl, hc7, k2, k3, k5⟩ := hph7.run1 1 false rfl
      have HBE := Lib.hid (bl_then HB6.out hb7')
      clear hph7 hb7' hs7 hb7
      go_wp2_with fail
      go_ret
      exact ⟨rfl, HBE.out⟩
    · skip
      have hph : Ph _ w3 v l false true false false := HPH.out
      obtain ⟨A, c, rfl⟩ := hph.none_
      have HBE := HB6
      clear hph HPH
      go_wp2_with fail
      go_ret
      exact ⟨rfl, HBE.out⟩
    · skip
      have hph : Ph _ w3 v l true true false false := HPH.out
      obtain ⟨g, c, X, i, ci, rfl, hg3, hc, e0, e1, e2, hrun, hci⟩ := hph.run0 1 rfl
      have hg6 := Nat.lt_of_lt_of_le hg3 HB36.out.size
      have g0 := (HB36.out.cell (p := ⟨g, 0, none⟩) hg3).trans e0
      have g1 := (HB36.out.cell (p := ⟨g, 1, none⟩) hg3).trans e1
      have g2 := (HB36.out.cell (p := ⟨g, 2, none⟩) hg3).trans e2
      have HRUN := Lib.hid (hrun.below HB36.out)
      clear hph e0 e1 e2 hrun HPH
      have HS11 : Hid (∀ W, Below w6.heap.size w6 W → (W.cell? ⟨w1.heap.size + 1 + 1 + 1 + 1 + 1 + 1, 0, none⟩ = some (.slice (some ⟨w1.heap.size + 1 + 1 + 1 + 1 + 1, 0, none⟩) 2 2) ∧ W.cell? ⟨w1.heap.size + 1 + 1 + 1 + 1 + 1 + 1, 1, none⟩ = some (.int .i64 8) ∧ W.cell? ⟨w1.heap.size + 1 + 1 + 1 + 1 + 1 + 1, 2, none⟩ = some (.bool false)) ∧ W.cell? ⟨g, 0, none⟩ = some (.int .i64 0) ∧ W.cell? ⟨g, 1, none⟩ = some (.slice (some ⟨X, 0, none⟩) 1 1) ∧ W.cell? ⟨g, 2, none⟩ = some (.bool true)) := Lib.hid fun W hW' => by
        have hW := bl_then HB26.out hW'
        exact ⟨three_of ((hW.block _ (block_lt HL.out.box)).trans HL.out.box), (hW'.cell (p := ⟨g, 0, none⟩) hg6).trans g0, (hW'.cell (p := ⟨g, 1, none⟩) hg6).trans g1, (hW'.cell (p := ⟨g, 2, none⟩) hg6).trans g2⟩
      go_wp2_with fail
      go_region_held3 (fun w' => (w'.cell? ⟨w1.heap.size + 1 + 1 + 1 + 1 + 1 + 1, 0, none⟩ = some (.slice (some ⟨w1.heap.size + 1 + 1 + 1 + 1 + 1, 0, none⟩) 2 2) ∧ w'.cell? ⟨w1.heap.size + 1 + 1 + 1 + 1 + 1 + 1, 1, none⟩ = some (.int .i64 8) ∧ w'.cell? ⟨w1.heap.size + 1 + 1 + 1 + 1 + 1 + 1, 2, none⟩ = some (.bool false)) ∧ w'.cell? ⟨g, 0, none⟩ = some (.int .i64 0) ∧ w'.cell? ⟨g, 1, none⟩ = some (.slice (some ⟨X, 0, none⟩) 1 1) ∧ w'.cell? ⟨g, 2, none⟩ = some (.bool true))
        (first | exact hs7 | exact HS11.out _ (bl_drew (Below.refl _ _)))
        (first
          | (go_at_call 14; go_loud (refine (HL.out.call2 true (fun _ => rfl) (bl_drew HB26.out) (HRUN.out.below (bl_drew (Below.refl _ _))) hci).mono ?_); rintro e w7 ⟨v7, l7, rfl, hb7, hph7⟩; have hb7' : Below w6.heap.size w6 w7 := bl_then (bl_drew (Below.refl _ _)) hb7; have hs7 := HS11.out _ hb7'))
      obtain ⟨g7, c7, X7, i7, ci7, rfl, hg7, hc7, k0, k1, k2, _, _⟩ := hph7.run0 1 rfl
      have HB67 := Lib.hid hb7'
      clear hph7 hb7' hs7 hb7
      have HS13 : Hid (∀ W, Below w7.heap.size w7 W → (W.cell? ⟨w1.heap.size + 1 + 1 + 1 + 1 + 1 + 1, 0, none⟩ = some (.slice (some ⟨w1.heap.size + 1 + 1 + 1 + 1 + 1, 0, none⟩) 2 2) ∧ W.cell? ⟨w1.heap.size + 1 + 1 + 1 + 1 + 1 + 1, 1, none⟩ = some (.int .i64 8) ∧ W.cell? ⟨w1.heap.size + 1 + 1 + 1 + 1 + 1 + 1, 2, none⟩ = some (.bool false)) ∧ (W.cell? ⟨w1.heap.size + 1 + 1 + 1 + 1 + 1 + 1 + 1, 0, none⟩ = some (.int .i64 0) ∧ W.cell? ⟨w1.heap.size + 1 + 1 + 1 + 1 + 1 + 1 + 1, 1, none⟩ = some (.int .i64 0) ∧ W.cell? ⟨w1.heap.size + 1 + 1 + 1 + 1 + 1 + 1 + 1, 2, none⟩ = some (.int .i64 0) ∧ W.cell? ⟨w1.heap.size + 1 + 1 + 1 + 1 + 1 + 1 + 1, 3, none⟩ = some (.int .i64 0) ∧ W.cell? ⟨w1.heap.size + 1 + 1 + 1 + 1 + 1 + 1 + 1, 4, none⟩ = some (.int .i64 0) ∧ W.cell? ⟨w1.heap.size + 1 + 1 + 1 + 1 + 1 + 1 + 1, 5, none⟩ = some (.int .i64 0) ∧ W.cell? ⟨w1.heap.size + 1 + 1 + 1 + 1 + 1 + 1 + 1, 6, none⟩ = some (.int .i64 2) ∧ W.cell? ⟨w1.heap.size + 1 + 1 + 1 + 1 + 1 + 1 + 1, 7, none⟩ = some (.int .i64 0) ∧ W.cell? ⟨w1.heap.size + 1 + 1 + 1 + 1 + 1 + 1 + 1, 8, none⟩ = some (.int .i64 x) ∧ W.cell? ⟨w1.heap.size + 1 + 1 + 1 + 1 + 1 + 1 + 1, 9, none⟩ = some (.int .i64 0) ∧ W.cell? ⟨w1.heap.size + 1 + 1 + 1 + 1 + 1 + 1 + 1, 10, none⟩ = some (.int .i64 0) ∧ W.cell? ⟨w1.heap.size + 1 + 1 + 1 + 1 + 1 + 1 + 1, 11, none⟩ = some (.int .i64 0)) ∧ W.cell? ⟨g, 0, none⟩ = some (.int .i64 0) ∧ W.cell? ⟨g, 1, none⟩ = some (.slice (some ⟨X, 0, none⟩) 1 1) ∧ W.cell? ⟨g, 2, none⟩ = some (.bool true)) := Lib.hid fun W hW'' => by
        have hW' := bl_then HB67.out hW''
        have hW := bl_then HB26.out hW'
        exact ⟨three_of ((hW.block _ (block_lt HL.out.box)).trans HL.out.box), ⟨cell_of_blk ((hW.block _ (block_lt HL.out.hist)).trans HL.out.hist) 0, cell_of_blk ((hW.block _ (block_lt HL.out.hist)).trans HL.out.hist) 1, cell_of_blk ((hW.block _ (block_lt HL.out.hist)).trans HL.out.hist) 2, cell_of_blk ((hW.block _ (block_lt HL.out.hist)).trans HL.out.hist) 3, cell_of_blk ((hW.block _ (block_lt HL.out.hist)).trans HL.out.hist) 4, cell_of_blk ((hW.block _ (block_lt HL.out.hist)).trans HL.out.hist) 5, cell_of_blk ((hW.block _ (block_lt HL.out.hist)).trans HL.out.hist) 6, cell_of_blk ((hW.block _ (block_lt HL.out.hist)).trans HL.out.hist) 7, cell_of_blk ((hW.block _ (block_lt HL.out.hist)).trans HL.out.hist) 8, cell_of_blk ((hW.block _ (block_lt HL.out.hist)).trans HL.out.hist) 9, cell_of_blk ((hW.block _ (block_lt HL.out.hist)).trans HL.out.hist) 10, cell_of_blk ((hW.block _ (block_lt HL.out.hist)).trans HL.out.hist) 11⟩, (hW'.cell (p := ⟨g, 0, none⟩) hg6).trans g0, (hW'.cell (p := ⟨g, 1, none⟩) hg6).trans g1, (hW'.cell (p := ⟨g, 2, none⟩) hg6).trans g2⟩
      go_wp2_with fail
      go_region_held3 (fun w' => (w'.cell? ⟨w1.heap.size + 1 + 1 + 1 + 1 + 1 + 1, 0, none⟩ = some (.slice (some ⟨w1.heap.size + 1 + 1 + 1 + 1 + 1, 0, none⟩) 2 2) ∧ w'.cell? ⟨w1.heap.size + 1 + 1 + 1 + 1 + 1 + 1, 1, none⟩ = some (.int .i64 8) ∧ w'.cell? ⟨w1.heap.size + 1 + 1 + 1 + 1 + 1 + 1, 2, none⟩ = some (.bool false)) ∧ (w'.cell? ⟨w1.heap.size + 1 + 1 + 1 + 1 + 1 + 1 + 1, 0, none⟩ = some (.int .i64 0) ∧ w'.cell? ⟨w1.heap.size + 1 + 1 + 1 + 1 + 1 + 1 + 1, 1, none⟩ = some (.int .i64 0) ∧ w'.cell? ⟨w1.heap.size + 1 + 1 + 1 + 1 + 1 + 1 + 1, 2, none⟩ = some (.int .i64 0) ∧ w'.cell? ⟨w1.heap.size + 1 + 1 + 1 + 1 + 1 + 1 + 1, 3, none⟩ = some (.int .i64 0) ∧ w'.cell? ⟨w1.heap.size + 1 + 1 + 1 + 1 + 1 + 1 + 1, 4, none⟩ = some (.int .i64 0) ∧ w'.cell? ⟨w1.heap.size + 1 + 1 + 1 + 1 + 1 + 1 + 1, 5, none⟩ = some (.int .i64 0) ∧ w'.cell? ⟨w1.heap.size + 1 + 1 + 1 + 1 + 1 + 1 + 1, 6, none⟩ = some (.int .i64 2) ∧ w'.cell? ⟨w1.heap.size + 1 + 1 + 1 + 1 + 1 + 1 + 1, 7, none⟩ = some (.int .i64 0) ∧ w'.cell? ⟨w1.heap.size + 1 + 1 + 1 + 1 + 1 + 1 + 1, 8, none⟩ = some (.int .i64 x) ∧ w'.cell? ⟨w1.heap.size + 1 + 1 + 1 + 1 + 1 + 1 + 1, 9, none⟩ = some (.int .i64 0) ∧ w'.cell? ⟨w1.heap.size + 1 + 1 + 1 + 1 + 1 + 1 + 1, 10, none⟩ = some (.int .i64 0) ∧ w'.cell? ⟨w1.heap.size + 1 + 1 + 1 + 1 + 1 + 1 + 1, 11, none⟩ = some (.int .i64 0)) ∧ w'.cell? ⟨g, 0, none⟩ = some (.int .i64 0) ∧ w'.cell? ⟨g, 1, none⟩ = some (.slice (some ⟨X, 0, none⟩) 1 1) ∧ w'.cell? ⟨g, 2, none⟩ = some (.bool true))
        (first | exact hs8 | exact HS13.out _ (bl_drew (bl_alloc (Below.refl _ _) _)) | exact HS13.out _ (bl_drew (Below.refl _ _)))
        (first
          | (go_at_call 14; go_loud (refine (HL.out.call3 (E := w7.heap.size) (bl_then (bl_then HB26.out HB67.out) (bl_drew (bl_alloc (Below.refl _ _) _))) (HRUN.out.below (bl_then HB67.out (bl_drew (bl_alloc (Below.refl _ _) _)))) hci (alloc_new w7 _)).mono ?_); rintro e w8 ⟨v8, l8, rfl, hb8, hph8⟩; have hb8' : Below w7.heap.size w7 w8 := bl_then (bl_drew (bl_alloc (Below.refl _ w7) (.cells #[.int .i64 0, .int .i64 0, .int .i64 0, .int .i64 0, .int .i64 0, .int .i64 0, .int .i64 2, .int .i64 0, .int .i64 x, .int .i64 0, .int .i64 0, .int .i64 0, .int .i64 0, .int .i64 0, .int .i64 0, .int .i64 0, .int .i64 0, .int .i64 0] 53))) hb8; have hs8 := HS13.out _ hb8'))
      obtain ⟨g8, c8, rfl, hc8, q2, q3, q5⟩ := hph8.run1 0 false rfl
      have k2' := (hb8'.cell (p := ⟨g7, 2, none⟩) hg7).trans k2
      have HBE := Lib.hid (bl_then HB6.out (bl_then HB67.out hb8'))
      clear hph8 hb8' hs8 hb8 k0 k1 k2
      go_wp2_with fail
      go_ret
      exact ⟨rfl, HBE.out⟩
end Go.Proofs.Ytecdnpdmjbcioaa
