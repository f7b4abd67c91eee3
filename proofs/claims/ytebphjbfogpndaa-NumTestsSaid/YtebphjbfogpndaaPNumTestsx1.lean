-- PRINTED BY print.sh 35421559b90ae4d0a3588c463048766b98c2df88dd9212a6774a882060cdf62d: not written by this session
import Derived.Test.YtebphjbfogpndaaPNumTestsx0
namespace Go.Proofs.Ytebphjbfogpndaa.PNumTests
open Go.RowKit Go.Proofs.YtebphjbfogpndaaW.PrintWords Go.Proofs.YtebphjbfogpndaaW.PrintLast Go.Proofs.YtebphjbfogpndaaW.PrintMore
attribute [local go_sem] max2_int min2_int max_two min_two max_three min_three max_four min_four   -- for this text's walks alone
set_option linter.unusedVariables false
set_option linter.unusedSimpArgs false

/-! ### num_Do: function 11 -/
def num_Do.f (a0 : Int) (a1 : Int) (a2 : Int) : Option (Int × Bool) := if a0 = 2 then (some (wrap64 (a1 + (wrap64 (-a2))), true)) else (if a0 = 1 then (some (wrap64 (a1 + a2), true)) else (if a0 = 3 then (some (wrap64 (a1 * a2), true)) else (if a0 = 4 then (if a2 = 0 then (some (0, false)) else (some (wrap64 (Int.tdiv a1 a2), true))) else (if a0 = 5 then (if a2 = 0 then (some (0, false)) else (some (Int.tmod a1 a2, true))) else (some (0, false))))))
set_option maxHeartbeats 8000000 in
set_option maxRecDepth 100000 in
theorem num_Do.calls (a0 : Int) (a1 : Int) (a2 : Int) (r1 : Int) (r2 : Bool) (w : World) (h : num_Do.f a0 a1 a2 = some (r1, r2)) :
    Calls Try.prog 11 #[.int .i64 a0, .int .i64 a1, .int .i64 a2] w fun e w' => e = .returned (.tuple #[.int .i64 r1, .bool r2]) ∧ Drawn0 w w' := by
  have H : (if a0 = 2 then (some (wrap64 (a1 + (wrap64 (-a2))), true)) else (if a0 = 1 then (some (wrap64 (a1 + a2), true)) else (if a0 = 3 then (some (wrap64 (a1 * a2), true)) else (if a0 = 4 then (if a2 = 0 then (some (0, false)) else (some (wrap64 (Int.tdiv a1 a2), true))) else (if a0 = 5 then (if a2 = 0 then (some (0, false)) else (some (Int.tmod a1 a2, true))) else (some (0, false))))))) = some (r1, r2) := h
  clear h
  by_cases c4 : a0 = 2
  · rw [if_pos c4] at H
    have c4b0 : (a0 == 2) = true := beq_iff_eq.mpr c4
    have c4b1 : (a0 != 2) = false := bne_eq_false_iff_eq.mpr c4
    clear c4
    simp only [Option.some.injEq, Prod.mk.injEq] at H
    obtain ⟨rfl, rfl⟩ := H
    go_enter Try.func11, Try.ntmps11
    go_wp2
    go_ret2
    exact ⟨by first | rfl | (simp; done) | (simp [*]; done), by repeat (first | exact Drawn0.refl _ | apply Drawn0.step)⟩
  · rw [if_neg c4] at H
    have c4b0 : (a0 == 2) = false := beq_eq_false_iff_ne.mpr c4
    have c4b1 : (a0 != 2) = true := bne_iff_ne.mpr c4
    by_cases c5 : a0 = 1
    · rw [if_pos c5] at H
      have c5b0 : (a0 == 1) = true := beq_iff_eq.mpr c5
      have c5b1 : (a0 != 1) = false := bne_eq_false_iff_eq.mpr c5
      clear c5
      simp only [Option.some.injEq, Prod.mk.injEq] at H
      obtain ⟨rfl, rfl⟩ := H
      go_enter Try.func11, Try.ntmps11
      go_wp2
      go_ret2
      exact ⟨by first | rfl | (simp; done) | (simp [*]; done), by repeat (first | exact Drawn0.refl _ | apply Drawn0.step)⟩
    · rw [if_neg c5] at H
      have c5b0 : (a0 == 1) = false := beq_eq_false_iff_ne.mpr c5
      have c5b1 : (a0 != 1) = true := bne_iff_ne.mpr c5
      by_cases c6 : a0 = 3
      · rw [if_pos c6] at H
        have c6b0 : (a0 == 3) = true := beq_iff_eq.mpr c6
        have c6b1 : (a0 != 3) = false := bne_eq_false_iff_eq.mpr c6
        clear c6
        simp only [Option.some.injEq, Prod.mk.injEq] at H
        obtain ⟨rfl, rfl⟩ := H
        go_enter Try.func11, Try.ntmps11
        go_wp2
        go_ret2
        exact ⟨by first | rfl | (simp; done) | (simp [*]; done), by repeat (first | exact Drawn0.refl _ | apply Drawn0.step)⟩
      · rw [if_neg c6] at H
        have c6b0 : (a0 == 3) = false := beq_eq_false_iff_ne.mpr c6
        have c6b1 : (a0 != 3) = true := bne_iff_ne.mpr c6
        by_cases c7 : a0 = 4
        · rw [if_pos c7] at H
          have c7b0 : (a0 == 4) = true := beq_iff_eq.mpr c7
          have c7b1 : (a0 != 4) = false := bne_eq_false_iff_eq.mpr c7
          clear c7
          by_cases c8 : a2 = 0
          · rw [if_pos c8] at H
            have c8b0 : (a2 == 0) = true := beq_iff_eq.mpr c8
            have c8b1 : (a2 != 0) = false := bne_eq_false_iff_eq.mpr c8
            clear c8
            simp only [Option.some.injEq, Prod.mk.injEq] at H
            obtain ⟨rfl, rfl⟩ := H
            go_enter Try.func11, Try.ntmps11
            go_wp2
            go_ret2
            exact ⟨by first | rfl | (simp; done) | (simp [*]; done), by repeat (first | exact Drawn0.refl _ | apply Drawn0.step)⟩
          · rw [if_neg c8] at H
            have c8b0 : (a2 == 0) = false := beq_eq_false_iff_ne.mpr c8
            have c8b1 : (a2 != 0) = true := bne_iff_ne.mpr c8
            simp only [Option.some.injEq, Prod.mk.injEq] at H
            obtain ⟨rfl, rfl⟩ := H
            go_enter Try.func11, Try.ntmps11
            go_wp2
            go_ret2
            exact ⟨by first | rfl | (simp; done) | (simp [*]; done), by repeat (first | exact Drawn0.refl _ | apply Drawn0.step)⟩
        · rw [if_neg c7] at H
          have c7b0 : (a0 == 4) = false := beq_eq_false_iff_ne.mpr c7
          have c7b1 : (a0 != 4) = true := bne_iff_ne.mpr c7
          by_cases c9 : a0 = 5
          · rw [if_pos c9] at H
            have c9b0 : (a0 == 5) = true := beq_iff_eq.mpr c9
            have c9b1 : (a0 != 5) = false := bne_eq_false_iff_eq.mpr c9
            clear c9
            by_cases c10 : a2 = 0
            · rw [if_pos c10] at H
              have c10b0 : (a2 == 0) = true := beq_iff_eq.mpr c10
              have c10b1 : (a2 != 0) = false := bne_eq_false_iff_eq.mpr c10
              clear c10
              simp only [Option.some.injEq, Prod.mk.injEq] at H
              obtain ⟨rfl, rfl⟩ := H
              go_enter Try.func11, Try.ntmps11
              go_wp2
              go_ret2
              exact ⟨by first | rfl | (simp; done) | (simp [*]; done), by repeat (first | exact Drawn0.refl _ | apply Drawn0.step)⟩
            · rw [if_neg c10] at H
              have c10b0 : (a2 == 0) = false := beq_eq_false_iff_ne.mpr c10
              have c10b1 : (a2 != 0) = true := bne_iff_ne.mpr c10
              simp only [Option.some.injEq, Prod.mk.injEq] at H
              obtain ⟨rfl, rfl⟩ := H
              go_enter Try.func11, Try.ntmps11
              go_wp2
              go_ret2
              exact ⟨by first | rfl | (simp; done) | (simp [*]; done), by repeat (first | exact Drawn0.refl _ | apply Drawn0.step)⟩
          · rw [if_neg c9] at H
            have c9b0 : (a0 == 5) = false := beq_eq_false_iff_ne.mpr c9
            have c9b1 : (a0 != 5) = true := bne_iff_ne.mpr c9
            simp only [Option.some.injEq, Prod.mk.injEq] at H
            obtain ⟨rfl, rfl⟩ := H
            go_enter Try.func11, Try.ntmps11
            go_wp2
            go_ret2
            exact ⟨by first | rfl | (simp; done) | (simp [*]; done), by repeat (first | exact Drawn0.refl _ | apply Drawn0.step)⟩

/-! ### num_Test: function 12 -/
def num_Test.f (a0 : Int) (a1 : Int) (a2 : Int) : Option (Bool) := if a0 = 1 then (some (a1 == a2)) else (if a0 = 2 then (some (a1 != a2)) else (if a0 = 3 then (some (decide (a1 < a2))) else (if a0 = 4 then (some (decide (a1 ≤ a2))) else (if a0 = 5 then (some (decide (a1 > a2))) else (if a0 = 6 then (some (decide (a1 ≥ a2))) else (some false))))))
set_option maxHeartbeats 8000000 in
set_option maxRecDepth 100000 in
theorem num_Test.calls (a0 : Int) (a1 : Int) (a2 : Int) (r : Bool) (w : World) (h : num_Test.f a0 a1 a2 = some r) :
    Calls Try.prog 12 #[.int .i64 a0, .int .i64 a1, .int .i64 a2] w fun e w' => e = .returned (.bool r) ∧ Drawn0 w w' := by
  have H : (if a0 = 1 then (some (a1 == a2)) else (if a0 = 2 then (some (a1 != a2)) else (if a0 = 3 then (some (decide (a1 < a2))) else (if a0 = 4 then (some (decide (a1 ≤ a2))) else (if a0 = 5 then (some (decide (a1 > a2))) else (if a0 = 6 then (some (decide (a1 ≥ a2))) else (some false))))))) = some r := h
  clear h
  by_cases c4 : a0 = 1
  · rw [if_pos c4] at H
    have c4b0 : (a0 == 1) = true := beq_iff_eq.mpr c4
    have c4b1 : (a0 != 1) = false := bne_eq_false_iff_eq.mpr c4
    clear c4
    obtain rfl := Option.some.inj H
    go_enter Try.func12, Try.ntmps12
    go_wp2
    go_ret
    exact ⟨by first | rfl | (simp; done) | (simp [*]; done), by repeat (first | exact Drawn0.refl _ | apply Drawn0.step)⟩
  · rw [if_neg c4] at H
    have c4b0 : (a0 == 1) = false := beq_eq_false_iff_ne.mpr c4
    have c4b1 : (a0 != 1) = true := bne_iff_ne.mpr c4
    by_cases c5 : a0 = 2
    · rw [if_pos c5] at H
      have c5b0 : (a0 == 2) = true := beq_iff_eq.mpr c5
      have c5b1 : (a0 != 2) = false := bne_eq_false_iff_eq.mpr c5
      clear c5
      obtain rfl := Option.some.inj H
      go_enter Try.func12, Try.ntmps12
      go_wp2
      go_ret
      exact ⟨by first | rfl | (simp; done) | (simp [*]; done), by repeat (first | exact Drawn0.refl _ | apply Drawn0.step)⟩
    · rw [if_neg c5] at H
      have c5b0 : (a0 == 2) = false := beq_eq_false_iff_ne.mpr c5
      have c5b1 : (a0 != 2) = true := bne_iff_ne.mpr c5
      by_cases c6 : a0 = 3
      · rw [if_pos c6] at H
        have c6b0 : (a0 == 3) = true := beq_iff_eq.mpr c6
        have c6b1 : (a0 != 3) = false := bne_eq_false_iff_eq.mpr c6
        clear c6
        obtain rfl := Option.some.inj H
        go_enter Try.func12, Try.ntmps12
        go_wp2
        go_ret
        exact ⟨by first | rfl | (simp; done) | (simp [*]; done), by repeat (first | exact Drawn0.refl _ | apply Drawn0.step)⟩
      · rw [if_neg c6] at H
        have c6b0 : (a0 == 3) = false := beq_eq_false_iff_ne.mpr c6
        have c6b1 : (a0 != 3) = true := bne_iff_ne.mpr c6
        by_cases c7 : a0 = 4
        · rw [if_pos c7] at H
          have c7b0 : (a0 == 4) = true := beq_iff_eq.mpr c7
          have c7b1 : (a0 != 4) = false := bne_eq_false_iff_eq.mpr c7
          clear c7
          obtain rfl := Option.some.inj H
          go_enter Try.func12, Try.ntmps12
          go_wp2
          go_ret
          exact ⟨by first | rfl | (simp; done) | (simp [*]; done), by repeat (first | exact Drawn0.refl _ | apply Drawn0.step)⟩
        · rw [if_neg c7] at H
          have c7b0 : (a0 == 4) = false := beq_eq_false_iff_ne.mpr c7
          have c7b1 : (a0 != 4) = true := bne_iff_ne.mpr c7
          by_cases c8 : a0 = 5
          · rw [if_pos c8] at H
            have c8b0 : (a0 == 5) = true := beq_iff_eq.mpr c8
            have c8b1 : (a0 != 5) = false := bne_eq_false_iff_eq.mpr c8
            clear c8
            obtain rfl := Option.some.inj H
            go_enter Try.func12, Try.ntmps12
            go_wp2
            go_ret
            exact ⟨by first | rfl | (simp; done) | (simp [*]; done), by repeat (first | exact Drawn0.refl _ | apply Drawn0.step)⟩
          · rw [if_neg c8] at H
            have c8b0 : (a0 == 5) = false := beq_eq_false_iff_ne.mpr c8
            have c8b1 : (a0 != 5) = true := bne_iff_ne.mpr c8
            by_cases c9 : a0 = 6
            · rw [if_pos c9] at H
              have c9b0 : (a0 == 6) = true := beq_iff_eq.mpr c9
              have c9b1 : (a0 != 6) = false := bne_eq_false_iff_eq.mpr c9
              clear c9
              obtain rfl := Option.some.inj H
              go_enter Try.func12, Try.ntmps12
              go_wp2
              go_ret
              exact ⟨by first | rfl | (simp; done) | (simp [*]; done), by repeat (first | exact Drawn0.refl _ | apply Drawn0.step)⟩
            · rw [if_neg c9] at H
              have c9b0 : (a0 == 6) = false := beq_eq_false_iff_ne.mpr c9
              have c9b1 : (a0 != 6) = true := bne_iff_ne.mpr c9
              obtain rfl := Option.some.inj H
              go_enter Try.func12, Try.ntmps12
              go_wp2
              go_ret
              exact ⟨by first | rfl | (simp; done) | (simp [*]; done), by repeat (first | exact Drawn0.refl _ | apply Drawn0.step)⟩

/-! ### sibyllaw01_awake: function 9 -/
def sibyllaw01_awake.f  : Option (Bool) := (num_Do.f 4 (-7) 2).bind fun bt101 => ((num_Do.f 5 (-7) 2).bind fun bt103 => ((num_Do.f 4 1 0).bind fun bt105 => (if bt101.1 = (-3) then (if bt101.2 = true then (if bt103.1 = (-1) then (if bt103.2 = true then (if bt105.2 = true then (some false) else ((num_Test.f 3 1 2).bind fun t107 => (some t107))) else (some false)) else (some false)) else (some false)) else (some false))))
set_option maxHeartbeats 8000000 in
set_option maxRecDepth 100000 in
theorem sibyllaw01_awake.calls  (r : Bool) (w : World) (h : sibyllaw01_awake.f  = some r) :
    Calls Try.prog 9 #[] w fun e w' => e = .returned (.bool r) ∧ Drawn0 w w' := by
  have H : ((num_Do.f 4 (-7) 2).bind fun bt101 => ((num_Do.f 5 (-7) 2).bind fun bt103 => ((num_Do.f 4 1 0).bind fun bt105 => (if bt101.1 = (-3) then (if bt101.2 = true then (if bt103.1 = (-1) then (if bt103.2 = true then (if bt105.2 = true then (some false) else ((num_Test.f 3 1 2).bind fun t107 => (some t107))) else (some false)) else (some false)) else (some false)) else (some false))))) = some r := h
  clear h
  replace H := Option.bind_eq_some_iff.mp H
  obtain ⟨⟨t101, t102⟩, A10, H⟩ := H
  replace H : ((num_Do.f 5 (-7) 2).bind fun bt103 => ((num_Do.f 4 1 0).bind fun bt105 => (if t101 = (-3) then (if t102 = true then (if bt103.1 = (-1) then (if bt103.2 = true then (if bt105.2 = true then (some false) else ((num_Test.f 3 1 2).bind fun t107 => (some t107))) else (some false)) else (some false)) else (some false)) else (some false)))) = some r := H
  have A1 := Aside0.mk A10
  clear A10
  replace H := Option.bind_eq_some_iff.mp H
  obtain ⟨⟨t103, t104⟩, A20, H⟩ := H
  replace H : ((num_Do.f 4 1 0).bind fun bt105 => (if t101 = (-3) then (if t102 = true then (if t103 = (-1) then (if t104 = true then (if bt105.2 = true then (some false) else ((num_Test.f 3 1 2).bind fun t107 => (some t107))) else (some false)) else (some false)) else (some false)) else (some false))) = some r := H
  have A2 := Aside0.mk A20
  clear A20
  replace H := Option.bind_eq_some_iff.mp H
  obtain ⟨⟨t105, t106⟩, A30, H⟩ := H
  replace H : (if t101 = (-3) then (if t102 = true then (if t103 = (-1) then (if t104 = true then (if t106 = true then (some false) else ((num_Test.f 3 1 2).bind fun t107 => (some t107))) else (some false)) else (some false)) else (some false)) else (some false)) = some r := H
  have A3 := Aside0.mk A30
  clear A30
  by_cases c4 : t101 = (-3)
  · rw [if_pos c4] at H
    have c4b0 : (t101 == (-3)) = true := beq_iff_eq.mpr c4
    have c4b1 : (t101 != (-3)) = false := bne_eq_false_iff_eq.mpr c4
    clear c4
    by_cases c5 : t102 = true
    · subst c5
      have H1 : (if t103 = (-1) then (if t104 = true then (if t106 = true then (some false) else ((num_Test.f 3 1 2).bind fun t107 => (some t107))) else (some false)) else (some false)) = some r := by rw [if_pos rfl] at H; exact H
      clear H
      have H := H1
      clear H1
      by_cases c6 : t103 = (-1)
      · rw [if_pos c6] at H
        have c6b0 : (t103 == (-1)) = true := beq_iff_eq.mpr c6
        have c6b1 : (t103 != (-1)) = false := bne_eq_false_iff_eq.mpr c6
        clear c6
        by_cases c7 : t104 = true
        · subst c7
          have H1 : (if t106 = true then (some false) else ((num_Test.f 3 1 2).bind fun t107 => (some t107))) = some r := by rw [if_pos rfl] at H; exact H
          clear H
          have H := H1
          clear H1
          by_cases c8 : t106 = true
          · subst c8
            have H1 : (some false) = some r := by rw [if_pos rfl] at H; exact H
            clear H
            have H := H1
            clear H1
            obtain rfl := Option.some.inj H
            go_enter Try.func9, Try.ntmps9
            go_wp2_with (first | ((with_reducible refine gate_callee (f := 11) rfl ?_); refine goesL_ (some 8) rfl rfl Try.func11 (by kernel_rfl) rfl #[.int .i64 4, .int .i64 (-7), .int .i64 2] rfl (by (try simp only [List.map_toArray, List.map_cons, List.map_nil]); first | done | rfl | (simp only [List.length_drop, List.length_take]; rfl)) ?_; (with_reducible refine (num_Do.calls 4 (-7) 2 t101 true _ A1.out).mono ?_); rintro e w' ⟨rfl, ⟨nd, rfl⟩⟩; refine ⟨_, rfl, ?_⟩) | ((with_reducible refine gate_callee (f := 11) rfl ?_); refine goesL_ (some 12) rfl rfl Try.func11 (by kernel_rfl) rfl #[.int .i64 5, .int .i64 (-7), .int .i64 2] rfl (by (try simp only [List.map_toArray, List.map_cons, List.map_nil]); first | done | rfl | (simp only [List.length_drop, List.length_take]; rfl)) ?_; (with_reducible refine (num_Do.calls 5 (-7) 2 t103 true _ A2.out).mono ?_); rintro e w' ⟨rfl, ⟨nd, rfl⟩⟩; refine ⟨_, rfl, ?_⟩) | ((with_reducible refine gate_callee (f := 11) rfl ?_); refine goesL_ (some 16) rfl rfl Try.func11 (by kernel_rfl) rfl #[.int .i64 4, .int .i64 1, .int .i64 0] rfl (by (try simp only [List.map_toArray, List.map_cons, List.map_nil]); first | done | rfl | (simp only [List.length_drop, List.length_take]; rfl)) ?_; (with_reducible refine (num_Do.calls 4 1 0 t105 true _ A3.out).mono ?_); rintro e w' ⟨rfl, ⟨nd, rfl⟩⟩; refine ⟨_, rfl, ?_⟩))
            go_ret
            exact ⟨by first | rfl | (simp; done) | (simp [*]; done), by repeat (first | exact Drawn0.refl _ | apply Drawn0.step)⟩
          · replace c8 := Bool.eq_false_iff.mpr c8
            subst c8
            have H1 : ((num_Test.f 3 1 2).bind fun t107 => (some t107)) = some r := by rw [if_neg (show ¬ (false = true) by decide)] at H; exact H
            clear H
            have H := H1
            clear H1
            replace H := Option.bind_eq_some_iff.mp H
            obtain ⟨t107, A90, H⟩ := H
            replace H : (some t107) = some r := H
            have A9 := Aside0.mk A90
            clear A90
            obtain rfl := Option.some.inj H
            go_enter Try.func9, Try.ntmps9
            go_wp2_with (first | ((with_reducible refine gate_callee (f := 11) rfl ?_); refine goesL_ (some 8) rfl rfl Try.func11 (by kernel_rfl) rfl #[.int .i64 4, .int .i64 (-7), .int .i64 2] rfl (by (try simp only [List.map_toArray, List.map_cons, List.map_nil]); first | done | rfl | (simp only [List.length_drop, List.length_take]; rfl)) ?_; (with_reducible refine (num_Do.calls 4 (-7) 2 t101 true _ A1.out).mono ?_); rintro e w' ⟨rfl, ⟨nd, rfl⟩⟩; refine ⟨_, rfl, ?_⟩) | ((with_reducible refine gate_callee (f := 11) rfl ?_); refine goesL_ (some 12) rfl rfl Try.func11 (by kernel_rfl) rfl #[.int .i64 5, .int .i64 (-7), .int .i64 2] rfl (by (try simp only [List.map_toArray, List.map_cons, List.map_nil]); first | done | rfl | (simp only [List.length_drop, List.length_take]; rfl)) ?_; (with_reducible refine (num_Do.calls 5 (-7) 2 t103 true _ A2.out).mono ?_); rintro e w' ⟨rfl, ⟨nd, rfl⟩⟩; refine ⟨_, rfl, ?_⟩) | ((with_reducible refine gate_callee (f := 11) rfl ?_); refine goesL_ (some 16) rfl rfl Try.func11 (by kernel_rfl) rfl #[.int .i64 4, .int .i64 1, .int .i64 0] rfl (by (try simp only [List.map_toArray, List.map_cons, List.map_nil]); first | done | rfl | (simp only [List.length_drop, List.length_take]; rfl)) ?_; (with_reducible refine (num_Do.calls 4 1 0 t105 false _ A3.out).mono ?_); rintro e w' ⟨rfl, ⟨nd, rfl⟩⟩; refine ⟨_, rfl, ?_⟩) | (go_at_call 12; (with_reducible refine (num_Test.calls 3 1 2 t107 _ A9.out).mono ?_); rintro e w' ⟨rfl, ⟨nd, rfl⟩⟩))
            go_ret
            exact ⟨by first | rfl | (simp; done) | (simp [*]; done), by repeat (first | exact Drawn0.refl _ | apply Drawn0.step)⟩
        · replace c7 := Bool.eq_false_iff.mpr c7
          subst c7
          have H1 : (some false) = some r := by rw [if_neg (show ¬ (false = true) by decide)] at H; exact H
          clear H
          have H := H1
          clear H1
          obtain rfl := Option.some.inj H
          go_enter Try.func9, Try.ntmps9
          go_wp2_with (first | ((with_reducible refine gate_callee (f := 11) rfl ?_); refine goesL_ (some 8) rfl rfl Try.func11 (by kernel_rfl) rfl #[.int .i64 4, .int .i64 (-7), .int .i64 2] rfl (by (try simp only [List.map_toArray, List.map_cons, List.map_nil]); first | done | rfl | (simp only [List.length_drop, List.length_take]; rfl)) ?_; (with_reducible refine (num_Do.calls 4 (-7) 2 t101 true _ A1.out).mono ?_); rintro e w' ⟨rfl, ⟨nd, rfl⟩⟩; refine ⟨_, rfl, ?_⟩) | ((with_reducible refine gate_callee (f := 11) rfl ?_); refine goesL_ (some 12) rfl rfl Try.func11 (by kernel_rfl) rfl #[.int .i64 5, .int .i64 (-7), .int .i64 2] rfl (by (try simp only [List.map_toArray, List.map_cons, List.map_nil]); first | done | rfl | (simp only [List.length_drop, List.length_take]; rfl)) ?_; (with_reducible refine (num_Do.calls 5 (-7) 2 t103 false _ A2.out).mono ?_); rintro e w' ⟨rfl, ⟨nd, rfl⟩⟩; refine ⟨_, rfl, ?_⟩) | ((with_reducible refine gate_callee (f := 11) rfl ?_); refine goesL_ (some 16) rfl rfl Try.func11 (by kernel_rfl) rfl #[.int .i64 4, .int .i64 1, .int .i64 0] rfl (by (try simp only [List.map_toArray, List.map_cons, List.map_nil]); first | done | rfl | (simp only [List.length_drop, List.length_take]; rfl)) ?_; (with_reducible refine (num_Do.calls 4 1 0 t105 t106 _ A3.out).mono ?_); rintro e w' ⟨rfl, ⟨nd, rfl⟩⟩; refine ⟨_, rfl, ?_⟩))
          go_ret
          exact ⟨by first | rfl | (simp; done) | (simp [*]; done), by repeat (first | exact Drawn0.refl _ | apply Drawn0.step)⟩
      · rw [if_neg c6] at H
        have c6b0 : (t103 == (-1)) = false := beq_eq_false_iff_ne.mpr c6
        have c6b1 : (t103 != (-1)) = true := bne_iff_ne.mpr c6
        obtain rfl := Option.some.inj H
        go_enter Try.func9, Try.ntmps9
        go_wp2_with (first | ((with_reducible refine gate_callee (f := 11) rfl ?_); refine goesL_ (some 8) rfl rfl Try.func11 (by kernel_rfl) rfl #[.int .i64 4, .int .i64 (-7), .int .i64 2] rfl (by (try simp only [List.map_toArray, List.map_cons, List.map_nil]); first | done | rfl | (simp only [List.length_drop, List.length_take]; rfl)) ?_; (with_reducible refine (num_Do.calls 4 (-7) 2 t101 true _ A1.out).mono ?_); rintro e w' ⟨rfl, ⟨nd, rfl⟩⟩; refine ⟨_, rfl, ?_⟩) | ((with_reducible refine gate_callee (f := 11) rfl ?_); refine goesL_ (some 12) rfl rfl Try.func11 (by kernel_rfl) rfl #[.int .i64 5, .int .i64 (-7), .int .i64 2] rfl (by (try simp only [List.map_toArray, List.map_cons, List.map_nil]); first | done | rfl | (simp only [List.length_drop, List.length_take]; rfl)) ?_; (with_reducible refine (num_Do.calls 5 (-7) 2 t103 t104 _ A2.out).mono ?_); rintro e w' ⟨rfl, ⟨nd, rfl⟩⟩; refine ⟨_, rfl, ?_⟩) | ((with_reducible refine gate_callee (f := 11) rfl ?_); refine goesL_ (some 16) rfl rfl Try.func11 (by kernel_rfl) rfl #[.int .i64 4, .int .i64 1, .int .i64 0] rfl (by (try simp only [List.map_toArray, List.map_cons, List.map_nil]); first | done | rfl | (simp only [List.length_drop, List.length_take]; rfl)) ?_; (with_reducible refine (num_Do.calls 4 1 0 t105 t106 _ A3.out).mono ?_); rintro e w' ⟨rfl, ⟨nd, rfl⟩⟩; refine ⟨_, rfl, ?_⟩))
        go_ret
        exact ⟨by first | rfl | (simp; done) | (simp [*]; done), by repeat (first | exact Drawn0.refl _ | apply Drawn0.step)⟩
    · replace c5 := Bool.eq_false_iff.mpr c5
      subst c5
      have H1 : (some false) = some r := by rw [if_neg (show ¬ (false = true) by decide)] at H; exact H
      clear H
      have H := H1
      clear H1
      obtain rfl := Option.some.inj H
      go_enter Try.func9, Try.ntmps9
      go_wp2_with (first | ((with_reducible refine gate_callee (f := 11) rfl ?_); refine goesL_ (some 8) rfl rfl Try.func11 (by kernel_rfl) rfl #[.int .i64 4, .int .i64 (-7), .int .i64 2] rfl (by (try simp only [List.map_toArray, List.map_cons, List.map_nil]); first | done | rfl | (simp only [List.length_drop, List.length_take]; rfl)) ?_; (with_reducible refine (num_Do.calls 4 (-7) 2 t101 false _ A1.out).mono ?_); rintro e w' ⟨rfl, ⟨nd, rfl⟩⟩; refine ⟨_, rfl, ?_⟩) | ((with_reducible refine gate_callee (f := 11) rfl ?_); refine goesL_ (some 12) rfl rfl Try.func11 (by kernel_rfl) rfl #[.int .i64 5, .int .i64 (-7), .int .i64 2] rfl (by (try simp only [List.map_toArray, List.map_cons, List.map_nil]); first | done | rfl | (simp only [List.length_drop, List.length_take]; rfl)) ?_; (with_reducible refine (num_Do.calls 5 (-7) 2 t103 t104 _ A2.out).mono ?_); rintro e w' ⟨rfl, ⟨nd, rfl⟩⟩; refine ⟨_, rfl, ?_⟩) | ((with_reducible refine gate_callee (f := 11) rfl ?_); refine goesL_ (some 16) rfl rfl Try.func11 (by kernel_rfl) rfl #[.int .i64 4, .int .i64 1, .int .i64 0] rfl (by (try simp only [List.map_toArray, List.map_cons, List.map_nil]); first | done | rfl | (simp only [List.length_drop, List.length_take]; rfl)) ?_; (with_reducible refine (num_Do.calls 4 1 0 t105 t106 _ A3.out).mono ?_); rintro e w' ⟨rfl, ⟨nd, rfl⟩⟩; refine ⟨_, rfl, ?_⟩))
      go_ret
      exact ⟨by first | rfl | (simp; done) | (simp [*]; done), by repeat (first | exact Drawn0.refl _ | apply Drawn0.step)⟩
  · rw [if_neg c4] at H
    have c4b0 : (t101 == (-3)) = false := beq_eq_false_iff_ne.mpr c4
    have c4b1 : (t101 != (-3)) = true := bne_iff_ne.mpr c4
    obtain rfl := Option.some.inj H
    go_enter Try.func9, Try.ntmps9
    go_wp2_with (first | ((with_reducible refine gate_callee (f := 11) rfl ?_); refine goesL_ (some 8) rfl rfl Try.func11 (by kernel_rfl) rfl #[.int .i64 4, .int .i64 (-7), .int .i64 2] rfl (by (try simp only [List.map_toArray, List.map_cons, List.map_nil]); first | done | rfl | (simp only [List.length_drop, List.length_take]; rfl)) ?_; (with_reducible refine (num_Do.calls 4 (-7) 2 t101 t102 _ A1.out).mono ?_); rintro e w' ⟨rfl, ⟨nd, rfl⟩⟩; refine ⟨_, rfl, ?_⟩) | ((with_reducible refine gate_callee (f := 11) rfl ?_); refine goesL_ (some 12) rfl rfl Try.func11 (by kernel_rfl) rfl #[.int .i64 5, .int .i64 (-7), .int .i64 2] rfl (by (try simp only [List.map_toArray, List.map_cons, List.map_nil]); first | done | rfl | (simp only [List.length_drop, List.length_take]; rfl)) ?_; (with_reducible refine (num_Do.calls 5 (-7) 2 t103 t104 _ A2.out).mono ?_); rintro e w' ⟨rfl, ⟨nd, rfl⟩⟩; refine ⟨_, rfl, ?_⟩) | ((with_reducible refine gate_callee (f := 11) rfl ?_); refine goesL_ (some 16) rfl rfl Try.func11 (by kernel_rfl) rfl #[.int .i64 4, .int .i64 1, .int .i64 0] rfl (by (try simp only [List.map_toArray, List.map_cons, List.map_nil]); first | done | rfl | (simp only [List.length_drop, List.length_take]; rfl)) ?_; (with_reducible refine (num_Do.calls 4 1 0 t105 t106 _ A3.out).mono ?_); rintro e w' ⟨rfl, ⟨nd, rfl⟩⟩; refine ⟨_, rfl, ?_⟩))
    go_ret
    exact ⟨by first | rfl | (simp; done) | (simp [*]; done), by repeat (first | exact Drawn0.refl _ | apply Drawn0.step)⟩

/-! ### sibyllaw01_NumTests: function 6 -/
def sibyllaw01_NumTests.j0 : Nat → Int → Int → Bool → Bool → Bool → Bool → Bool → Option (Bool)
  | 0, _, _, _, _, _, _, _ => none
  | k + 1, x0, x1, x5, x6, x7, x8, x9 => if x5 = true then (if x9 = true then ((num_Test.f 2 x0 x1).bind fun t112 => (if (t112 == (!x7)) = true then ((num_Test.f 4 x0 x1).bind fun t113 => (if (t113 == (!x8)) = true then ((num_Test.f 6 x0 x1).bind fun t114 => (if (t114 == (!x6)) = true then ((num_Test.f 5 x1 x0).bind fun t115 => (if (t115 == x6) = true then ((num_Test.f 1 x1 x0).bind fun t116 => (if (t116 == x7) = true then ((num_Test.f 1 x0 x0).bind fun t117 => (some t117)) else (some false))) else (some false))) else (some false))) else (some false))) else (some false))) else (some false)) else (some false)
def sibyllaw01_NumTests.f (k : Nat) (a0 : Int) (a1 : Int) : Option (Bool) := (sibyllaw01_awake.f).bind fun t108 => ((num_Test.f 3 a0 a1).bind fun t109 => ((num_Test.f 1 a0 a1).bind fun t110 => ((num_Test.f 5 a0 a1).bind fun t111 => (if t109 = true then (if t110 = true then (sibyllaw01_NumTests.j0 k a0 a1 t108 t109 t110 t111 false) else (if t111 = true then (sibyllaw01_NumTests.j0 k a0 a1 t108 t109 t110 t111 false) else (sibyllaw01_NumTests.j0 k a0 a1 t108 t109 t110 t111 true))) else (if t110 = true then (if t111 = true then (sibyllaw01_NumTests.j0 k a0 a1 t108 t109 t110 t111 false) else (sibyllaw01_NumTests.j0 k a0 a1 t108 t109 t110 t111 true)) else (sibyllaw01_NumTests.j0 k a0 a1 t108 t109 t110 t111 t111))))))
theorem sibyllaw01_NumTests.mono_l : ∀ k, (∀ y0 y1 y2 y3 y4 y5 y6, LeO (sibyllaw01_NumTests.j0 k y0 y1 y2 y3 y4 y5 y6) (sibyllaw01_NumTests.j0 (k + 1) y0 y1 y2 y3 y4 y5 y6))
  | 0 => fun _ _ _ _ _ _ _ r h => by simp [sibyllaw01_NumTests.j0] at h
  | k + 1 => by
    have ih0 := sibyllaw01_NumTests.mono_l k
    · intro y0 y1 y2 y3 y4 y5 y6
      unfold sibyllaw01_NumTests.j0
      repeat' first
      | (with_reducible exact ih0 _ _ _ _ _ _ _)
      | (with_reducible exact LeO.refl _)
      | (with_reducible exact LeO.none _)
      | (with_reducible refine LeO.ite ?_ ?_)
      | (with_reducible refine LeO.bind ?_ (fun _ => ?_))
      | exact ih0 _ _ _ _ _ _ _
      | exact LeO.none _
      | refine LeO.ite ?_ ?_
      | refine LeO.bind ?_ (fun _ => ?_)
theorem sibyllaw01_NumTests.mono : ∀ a0 a1 k, LeO (sibyllaw01_NumTests.f k a0 a1) (sibyllaw01_NumTests.f (k + 1) a0 a1) := by
  intro a0 a1 k
  have ih0 := sibyllaw01_NumTests.mono_l k
  unfold sibyllaw01_NumTests.f
  repeat' first
      | (with_reducible exact ih0 _ _ _ _ _ _ _)
      | (with_reducible exact LeO.refl _)
      | (with_reducible exact LeO.none _)
      | (with_reducible refine LeO.ite ?_ ?_)
      | (with_reducible refine LeO.bind ?_ (fun _ => ?_))
      | exact ih0 _ _ _ _ _ _ _
      | exact LeO.none _
      | refine LeO.ite ?_ ?_
      | refine LeO.bind ?_ (fun _ => ?_)
set_option maxHeartbeats 8000000 in
set_option maxRecDepth 100000 in
theorem sibyllaw01_NumTests.calls (k : Nat) (a0 : Int) (a1 : Int) (r : Bool) (w : World) (h : sibyllaw01_NumTests.f k a0 a1 = some r) :
    Calls Try.prog 6 #[.int .i64 a0, .int .i64 a1] w fun e w' => e = .returned (.bool r) ∧ Drawn0 w w' := by
  have H : ((sibyllaw01_awake.f).bind fun t108 => ((num_Test.f 3 a0 a1).bind fun t109 => ((num_Test.f 1 a0 a1).bind fun t110 => ((num_Test.f 5 a0 a1).bind fun t111 => (if t109 = true then (if t110 = true then (sibyllaw01_NumTests.j0 k a0 a1 t108 t109 t110 t111 false) else (if t111 = true then (sibyllaw01_NumTests.j0 k a0 a1 t108 t109 t110 t111 false) else (sibyllaw01_NumTests.j0 k a0 a1 t108 t109 t110 t111 true))) else (if t110 = true then (if t111 = true then (sibyllaw01_NumTests.j0 k a0 a1 t108 t109 t110 t111 false) else (sibyllaw01_NumTests.j0 k a0 a1 t108 t109 t110 t111 true)) else (sibyllaw01_NumTests.j0 k a0 a1 t108 t109 t110 t111 t111))))))) = some r := h
  clear h
  replace H := Option.bind_eq_some_iff.mp H
  obtain ⟨t108, A30, H⟩ := H
  replace H : ((num_Test.f 3 a0 a1).bind fun t109 => ((num_Test.f 1 a0 a1).bind fun t110 => ((num_Test.f 5 a0 a1).bind fun t111 => (if t109 = true then (if t110 = true then (sibyllaw01_NumTests.j0 k a0 a1 t108 t109 t110 t111 false) else (if t111 = true then (sibyllaw01_NumTests.j0 k a0 a1 t108 t109 t110 t111 false) else (sibyllaw01_NumTests.j0 k a0 a1 t108 t109 t110 t111 true))) else (if t110 = true then (if t111 = true then (sibyllaw01_NumTests.j0 k a0 a1 t108 t109 t110 t111 false) else (sibyllaw01_NumTests.j0 k a0 a1 t108 t109 t110 t111 true)) else (sibyllaw01_NumTests.j0 k a0 a1 t108 t109 t110 t111 t111)))))) = some r := H
  have A3 := Aside0.mk A30
  clear A30
  replace H := Option.bind_eq_some_iff.mp H
  obtain ⟨t109, A40, H⟩ := H
  replace H : ((num_Test.f 1 a0 a1).bind fun t110 => ((num_Test.f 5 a0 a1).bind fun t111 => (if t109 = true then (if t110 = true then (sibyllaw01_NumTests.j0 k a0 a1 t108 t109 t110 t111 false) else (if t111 = true then (sibyllaw01_NumTests.j0 k a0 a1 t108 t109 t110 t111 false) else (sibyllaw01_NumTests.j0 k a0 a1 t108 t109 t110 t111 true))) else (if t110 = true then (if t111 = true then (sibyllaw01_NumTests.j0 k a0 a1 t108 t109 t110 t111 false) else (sibyllaw01_NumTests.j0 k a0 a1 t108 t109 t110 t111 true)) else (sibyllaw01_NumTests.j0 k a0 a1 t108 t109 t110 t111 t111))))) = some r := H
  have A4 := Aside0.mk A40
  clear A40
  replace H := Option.bind_eq_some_iff.mp H
  obtain ⟨t110, A50, H⟩ := H
  replace H : ((num_Test.f 5 a0 a1).bind fun t111 => (if t109 = true then (if t110 = true then (sibyllaw01_NumTests.j0 k a0 a1 t108 t109 t110 t111 false) else (if t111 = true then (sibyllaw01_NumTests.j0 k a0 a1 t108 t109 t110 t111 false) else (sibyllaw01_NumTests.j0 k a0 a1 t108 t109 t110 t111 true))) else (if t110 = true then (if t111 = true then (sibyllaw01_NumTests.j0 k a0 a1 t108 t109 t110 t111 false) else (sibyllaw01_NumTests.j0 k a0 a1 t108 t109 t110 t111 true)) else (sibyllaw01_NumTests.j0 k a0 a1 t108 t109 t110 t111 t111)))) = some r := H
  have A5 := Aside0.mk A50
  clear A50
  replace H := Option.bind_eq_some_iff.mp H
  obtain ⟨t111, A60, H⟩ := H
  replace H : (if t109 = true then (if t110 = true then (sibyllaw01_NumTests.j0 k a0 a1 t108 t109 t110 t111 false) else (if t111 = true then (sibyllaw01_NumTests.j0 k a0 a1 t108 t109 t110 t111 false) else (sibyllaw01_NumTests.j0 k a0 a1 t108 t109 t110 t111 true))) else (if t110 = true then (if t111 = true then (sibyllaw01_NumTests.j0 k a0 a1 t108 t109 t110 t111 false) else (sibyllaw01_NumTests.j0 k a0 a1 t108 t109 t110 t111 true)) else (sibyllaw01_NumTests.j0 k a0 a1 t108 t109 t110 t111 t111))) = some r := H
  have A6 := Aside0.mk A60
  clear A60
  have HC7 := Aside0.mk H
  clear H
  go_enter Try.func6, Try.ntmps6
  go_upto_region 5 with (first | ((with_reducible refine gate_callee (f := 9) rfl ?_); refine goesL_ (some 10) rfl rfl Try.func9 (by kernel_rfl) rfl #[] rfl (by (try simp only [List.map_toArray, List.map_cons, List.map_nil]); first | done | rfl | (simp only [List.length_drop, List.length_take]; rfl)) ?_; (with_reducible refine (sibyllaw01_awake.calls  t108 _ A3.out).mono ?_); rintro e w' ⟨rfl, ⟨nd, rfl⟩⟩; refine ⟨_, rfl, ?_⟩) | ((with_reducible refine gate_callee (f := 12) rfl ?_); refine goesL_ (some 13) rfl rfl Try.func12 (by kernel_rfl) rfl #[.int .i64 3, .int .i64 a0, .int .i64 a1] rfl (by (try simp only [List.map_toArray, List.map_cons, List.map_nil]); first | done | rfl | (simp only [List.length_drop, List.length_take]; rfl)) ?_; (with_reducible refine (num_Test.calls 3 a0 a1 t109 _ A4.out).mono ?_); rintro e w' ⟨rfl, ⟨nd, rfl⟩⟩; refine ⟨_, rfl, ?_⟩) | ((with_reducible refine gate_callee (f := 12) rfl ?_); refine goesL_ (some 16) rfl rfl Try.func12 (by kernel_rfl) rfl #[.int .i64 1, .int .i64 a0, .int .i64 a1] rfl (by (try simp only [List.map_toArray, List.map_cons, List.map_nil]); first | done | rfl | (simp only [List.length_drop, List.length_take]; rfl)) ?_; (with_reducible refine (num_Test.calls 1 a0 a1 t110 _ A5.out).mono ?_); rintro e w' ⟨rfl, ⟨nd, rfl⟩⟩; refine ⟨_, rfl, ?_⟩) | ((with_reducible refine gate_callee (f := 12) rfl ?_); refine goesL_ (some 19) rfl rfl Try.func12 (by kernel_rfl) rfl #[.int .i64 5, .int .i64 a0, .int .i64 a1] rfl (by (try simp only [List.map_toArray, List.map_cons, List.map_nil]); first | done | rfl | (simp only [List.length_drop, List.length_take]; rfl)) ?_; (with_reducible refine (num_Test.calls 5 a0 a1 t111 _ A6.out).mono ?_); rintro e w' ⟨rfl, ⟨nd, rfl⟩⟩; refine ⟨_, rfl, ?_⟩))
  (try simp only [Act.put, List.setIfInBounds_toArray, List.set_cons_zero, List.set_cons_succ])
  go_cut [9] (fun v9 wc => ∃ (kq : Nat) (x9_6 : Bool), v9 = .bool x9_6 ∧ Aside0 (sibyllaw01_NumTests.j0 kq a0 a1 t108 t109 t110 t111 x9_6 = some r) ∧ Aside0 (kq ≤ k) ∧ Drawn0 w wc)
  case first =>
    have H := HC7.out
    clear HC7
    by_cases c8 : t109 = true
    · subst c8
      have H1 : (if t110 = true then (sibyllaw01_NumTests.j0 k a0 a1 t108 true t110 t111 false) else (if t111 = true then (sibyllaw01_NumTests.j0 k a0 a1 t108 true t110 t111 false) else (sibyllaw01_NumTests.j0 k a0 a1 t108 true t110 t111 true))) = some r := by rw [if_pos rfl] at H; exact H
      clear H
      have H := H1
      clear H1
      by_cases c9 : t110 = true
      · subst c9
        have H1 : (sibyllaw01_NumTests.j0 k a0 a1 t108 true true t111 false) = some r := by rw [if_pos rfl] at H; exact H
        clear H
        have H := H1
        clear H1
        have H' := Aside0.mk H
        clear H
        go_wp2
        go_meet
        case rel => exact ⟨_, (false), (by first | rfl | (simp; done) | (simp [*]; done)), H', ⟨by first | omega | exact Nat.le_refl _⟩, by repeat (first | exact Drawn0.refl _ | apply Drawn0.step)⟩
      · replace c9 := Bool.eq_false_iff.mpr c9
        subst c9
        have H1 : (if t111 = true then (sibyllaw01_NumTests.j0 k a0 a1 t108 true false t111 false) else (sibyllaw01_NumTests.j0 k a0 a1 t108 true false t111 true)) = some r := by rw [if_neg (show ¬ (false = true) by decide)] at H; exact H
        clear H
        have H := H1
        clear H1
        by_cases c10 : t111 = true
        · subst c10
          have H1 : (sibyllaw01_NumTests.j0 k a0 a1 t108 true false true false) = some r := by rw [if_pos rfl] at H; exact H
          clear H
          have H := H1
          clear H1
          have H' := Aside0.mk H
          clear H
          go_wp2
          go_meet
          case rel => exact ⟨_, (false), (by first | rfl | (simp; done) | (simp [*]; done)), H', ⟨by first | omega | exact Nat.le_refl _⟩, by repeat (first | exact Drawn0.refl _ | apply Drawn0.step)⟩
        · replace c10 := Bool.eq_false_iff.mpr c10
          subst c10
          have H1 : (sibyllaw01_NumTests.j0 k a0 a1 t108 true false false true) = some r := by rw [if_neg (show ¬ (false = true) by decide)] at H; exact H
          clear H
          have H := H1
          clear H1
          have H' := Aside0.mk H
          clear H
          go_wp2
          go_meet
          case rel => exact ⟨_, (true), (by first | rfl | (simp; done) | (simp [*]; done)), H', ⟨by first | omega | exact Nat.le_refl _⟩, by repeat (first | exact Drawn0.refl _ | apply Drawn0.step)⟩
    · replace c8 := Bool.eq_false_iff.mpr c8
      subst c8
      have H1 : (if t110 = true then (if t111 = true then (sibyllaw01_NumTests.j0 k a0 a1 t108 false t110 t111 false) else (sibyllaw01_NumTests.j0 k a0 a1 t108 false t110 t111 true)) else (sibyllaw01_NumTests.j0 k a0 a1 t108 false t110 t111 t111)) = some r := by rw [if_neg (show ¬ (false = true) by decide)] at H; exact H
      clear H
      have H := H1
      clear H1
      by_cases c11 : t110 = true
      · subst c11
        have H1 : (if t111 = true then (sibyllaw01_NumTests.j0 k a0 a1 t108 false true t111 false) else (sibyllaw01_NumTests.j0 k a0 a1 t108 false true t111 true)) = some r := by rw [if_pos rfl] at H; exact H
        clear H
        have H := H1
        clear H1
        by_cases c12 : t111 = true
        · subst c12
          have H1 : (sibyllaw01_NumTests.j0 k a0 a1 t108 false true true false) = some r := by rw [if_pos rfl] at H; exact H
          clear H
          have H := H1
          clear H1
          have H' := Aside0.mk H
          clear H
          go_wp2
          go_meet
          case rel => exact ⟨_, (false), (by first | rfl | (simp; done) | (simp [*]; done)), H', ⟨by first | omega | exact Nat.le_refl _⟩, by repeat (first | exact Drawn0.refl _ | apply Drawn0.step)⟩
        · replace c12 := Bool.eq_false_iff.mpr c12
          subst c12
          have H1 : (sibyllaw01_NumTests.j0 k a0 a1 t108 false true false true) = some r := by rw [if_neg (show ¬ (false = true) by decide)] at H; exact H
          clear H
          have H := H1
          clear H1
          have H' := Aside0.mk H
          clear H
          go_wp2
          go_meet
          case rel => exact ⟨_, (true), (by first | rfl | (simp; done) | (simp [*]; done)), H', ⟨by first | omega | exact Nat.le_refl _⟩, by repeat (first | exact Drawn0.refl _ | apply Drawn0.step)⟩
      · replace c11 := Bool.eq_false_iff.mpr c11
        subst c11
        have H1 : (sibyllaw01_NumTests.j0 k a0 a1 t108 false false t111 t111) = some r := by rw [if_neg (show ¬ (false = true) by decide)] at H; exact H
        clear H
        have H := H1
        clear H1
        have H' := Aside0.mk H
        clear H
        go_wp2
        go_meet
        case rel => exact ⟨_, (t111), (by first | rfl | (simp; done) | (simp [*]; done)), H', ⟨by first | omega | exact Nat.le_refl _⟩, by repeat (first | exact Drawn0.refl _ | apply Drawn0.step)⟩
  case rest =>
    clear HC7
    try clear c1
    try clear p2
    try clear c6
    try clear c8
    try clear c9
    try clear c10
    try clear c11
    try clear c12
    obtain ⟨kq, x9_6, rfl, HA, HJ6, ⟨mc6, rfl⟩⟩ := hcut
    cases kq with
    | zero => exact absurd HA.out (by simp [sibyllaw01_NumTests.j0])
    | succ kj6 =>
      have H := HA.out
      clear HA
      simp only [sibyllaw01_NumTests.j0] at H
      by_cases c13 : t108 = true
      · subst c13
        have H1 : (if x9_6 = true then ((num_Test.f 2 a0 a1).bind fun t112 => (if (t112 == (!t110)) = true then ((num_Test.f 4 a0 a1).bind fun t113 => (if (t113 == (!t111)) = true then ((num_Test.f 6 a0 a1).bind fun t114 => (if (t114 == (!t109)) = true then ((num_Test.f 5 a1 a0).bind fun t115 => (if (t115 == t109) = true then ((num_Test.f 1 a1 a0).bind fun t116 => (if (t116 == t110) = true then ((num_Test.f 1 a0 a0).bind fun t117 => (some t117)) else (some false))) else (some false))) else (some false))) else (some false))) else (some false))) else (some false)) = some r := by rw [if_pos rfl] at H; exact H
        clear H
        have H := H1
        clear H1
        by_cases c14 : x9_6 = true
        · subst c14
          have H1 : ((num_Test.f 2 a0 a1).bind fun t112 => (if (t112 == (!t110)) = true then ((num_Test.f 4 a0 a1).bind fun t113 => (if (t113 == (!t111)) = true then ((num_Test.f 6 a0 a1).bind fun t114 => (if (t114 == (!t109)) = true then ((num_Test.f 5 a1 a0).bind fun t115 => (if (t115 == t109) = true then ((num_Test.f 1 a1 a0).bind fun t116 => (if (t116 == t110) = true then ((num_Test.f 1 a0 a0).bind fun t117 => (some t117)) else (some false))) else (some false))) else (some false))) else (some false))) else (some false))) = some r := by rw [if_pos rfl] at H; exact H
          clear H
          have H := H1
          clear H1
          replace H := Option.bind_eq_some_iff.mp H
          obtain ⟨t112, A150, H⟩ := H
          replace H : (if (t112 == (!t110)) = true then ((num_Test.f 4 a0 a1).bind fun t113 => (if (t113 == (!t111)) = true then ((num_Test.f 6 a0 a1).bind fun t114 => (if (t114 == (!t109)) = true then ((num_Test.f 5 a1 a0).bind fun t115 => (if (t115 == t109) = true then ((num_Test.f 1 a1 a0).bind fun t116 => (if (t116 == t110) = true then ((num_Test.f 1 a0 a0).bind fun t117 => (some t117)) else (some false))) else (some false))) else (some false))) else (some false))) else (some false)) = some r := H
          have A15 := Aside0.mk A150
          clear A150
          by_cases c16 : (t112 == (!t110)) = true
          · rw [if_pos c16] at H
            have c16b0 : (t112 == (!t110)) = true := c16
            (try (have c16b1 : decide (t112 = (!t110)) = true := by simpa using c16))
            (try (have c16b2 : (t112 == (!t110)) = true := by simpa using c16))
            clear c16
            replace H := Option.bind_eq_some_iff.mp H
            obtain ⟨t113, A170, H⟩ := H
            replace H : (if (t113 == (!t111)) = true then ((num_Test.f 6 a0 a1).bind fun t114 => (if (t114 == (!t109)) = true then ((num_Test.f 5 a1 a0).bind fun t115 => (if (t115 == t109) = true then ((num_Test.f 1 a1 a0).bind fun t116 => (if (t116 == t110) = true then ((num_Test.f 1 a0 a0).bind fun t117 => (some t117)) else (some false))) else (some false))) else (some false))) else (some false)) = some r := H
            have A17 := Aside0.mk A170
            clear A170
            by_cases c18 : (t113 == (!t111)) = true
            · rw [if_pos c18] at H
              have c18b0 : (t113 == (!t111)) = true := c18
              (try (have c18b1 : decide (t113 = (!t111)) = true := by simpa using c18))
              (try (have c18b2 : (t113 == (!t111)) = true := by simpa using c18))
              clear c18
              replace H := Option.bind_eq_some_iff.mp H
              obtain ⟨t114, A190, H⟩ := H
              replace H : (if (t114 == (!t109)) = true then ((num_Test.f 5 a1 a0).bind fun t115 => (if (t115 == t109) = true then ((num_Test.f 1 a1 a0).bind fun t116 => (if (t116 == t110) = true then ((num_Test.f 1 a0 a0).bind fun t117 => (some t117)) else (some false))) else (some false))) else (some false)) = some r := H
              have A19 := Aside0.mk A190
              clear A190
              by_cases c20 : (t114 == (!t109)) = true
              · rw [if_pos c20] at H
                have c20b0 : (t114 == (!t109)) = true := c20
                (try (have c20b1 : decide (t114 = (!t109)) = true := by simpa using c20))
                (try (have c20b2 : (t114 == (!t109)) = true := by simpa using c20))
                clear c20
                replace H := Option.bind_eq_some_iff.mp H
                obtain ⟨t115, A210, H⟩ := H
                replace H : (if (t115 == t109) = true then ((num_Test.f 1 a1 a0).bind fun t116 => (if (t116 == t110) = true then ((num_Test.f 1 a0 a0).bind fun t117 => (some t117)) else (some false))) else (some false)) = some r := H
                have A21 := Aside0.mk A210
                clear A210
                by_cases c22 : (t115 == t109) = true
                · rw [if_pos c22] at H
                  have c22b0 : (t115 == t109) = true := c22
                  (try (have c22b1 : decide (t115 = t109) = true := by simpa using c22))
                  (try (have c22b2 : (t115 == t109) = true := by simpa using c22))
                  clear c22
                  replace H := Option.bind_eq_some_iff.mp H
                  obtain ⟨t116, A230, H⟩ := H
                  replace H : (if (t116 == t110) = true then ((num_Test.f 1 a0 a0).bind fun t117 => (some t117)) else (some false)) = some r := H
                  have A23 := Aside0.mk A230
                  clear A230
                  by_cases c24 : (t116 == t110) = true
                  · rw [if_pos c24] at H
                    have c24b0 : (t116 == t110) = true := c24
                    (try (have c24b1 : decide (t116 = t110) = true := by simpa using c24))
                    (try (have c24b2 : (t116 == t110) = true := by simpa using c24))
                    clear c24
                    replace H := Option.bind_eq_some_iff.mp H
                    obtain ⟨t117, A250, H⟩ := H
                    replace H : (some t117) = some r := H
                    have A25 := Aside0.mk A250
                    clear A250
                    obtain rfl := Option.some.inj H
                    go_wp2_with (first | (go_at_call 12; (with_reducible refine (num_Test.calls 2 a0 a1 t112 _ A15.out).mono ?_); rintro e w' ⟨rfl, ⟨nd, rfl⟩⟩) | (go_at_call 12; (with_reducible refine (num_Test.calls 4 a0 a1 t113 _ A17.out).mono ?_); rintro e w' ⟨rfl, ⟨nd, rfl⟩⟩) | (go_at_call 12; (with_reducible refine (num_Test.calls 6 a0 a1 t114 _ A19.out).mono ?_); rintro e w' ⟨rfl, ⟨nd, rfl⟩⟩) | (go_at_call 12; (with_reducible refine (num_Test.calls 5 a1 a0 t115 _ A21.out).mono ?_); rintro e w' ⟨rfl, ⟨nd, rfl⟩⟩) | (go_at_call 12; (with_reducible refine (num_Test.calls 1 a1 a0 t116 _ A23.out).mono ?_); rintro e w' ⟨rfl, ⟨nd, rfl⟩⟩) | (go_at_call 12; (with_reducible refine (num_Test.calls 1 a0 a0 t117 _ A25.out).mono ?_); rintro e w' ⟨rfl, ⟨nd, rfl⟩⟩))
                    go_ret
                    exact ⟨by first | rfl | (simp; done) | (simp [*]; done), by repeat (first | exact Drawn0.refl _ | apply Drawn0.step)⟩
                  · rw [if_neg c24] at H
                    have c24b0 : (t116 == t110) = false := by simpa using c24
                    (try (have c24b1 : decide (t116 = t110) = false := by simpa using c24))
                    (try (have c24b2 : (t116 == t110) = false := by simpa using c24))
                    (try (have c24b3 : ¬ (t116 = t110) := by simpa using c24))
                    clear c24
                    obtain rfl := Option.some.inj H
                    go_wp2_with (first | (go_at_call 12; (with_reducible refine (num_Test.calls 2 a0 a1 t112 _ A15.out).mono ?_); rintro e w' ⟨rfl, ⟨nd, rfl⟩⟩) | (go_at_call 12; (with_reducible refine (num_Test.calls 4 a0 a1 t113 _ A17.out).mono ?_); rintro e w' ⟨rfl, ⟨nd, rfl⟩⟩) | (go_at_call 12; (with_reducible refine (num_Test.calls 6 a0 a1 t114 _ A19.out).mono ?_); rintro e w' ⟨rfl, ⟨nd, rfl⟩⟩) | (go_at_call 12; (with_reducible refine (num_Test.calls 5 a1 a0 t115 _ A21.out).mono ?_); rintro e w' ⟨rfl, ⟨nd, rfl⟩⟩) | (go_at_call 12; (with_reducible refine (num_Test.calls 1 a1 a0 t116 _ A23.out).mono ?_); rintro e w' ⟨rfl, ⟨nd, rfl⟩⟩))
                    go_ret
                    exact ⟨by first | rfl | (simp; done) | (simp [*]; done), by repeat (first | exact Drawn0.refl _ | apply Drawn0.step)⟩
                · rw [if_neg c22] at H
                  have c22b0 : (t115 == t109) = false := by simpa using c22
                  (try (have c22b1 : decide (t115 = t109) = false := by simpa using c22))
                  (try (have c22b2 : (t115 == t109) = false := by simpa using c22))
                  (try (have c22b3 : ¬ (t115 = t109) := by simpa using c22))
                  clear c22
                  obtain rfl := Option.some.inj H
                  go_wp2_with (first | (go_at_call 12; (with_reducible refine (num_Test.calls 2 a0 a1 t112 _ A15.out).mono ?_); rintro e w' ⟨rfl, ⟨nd, rfl⟩⟩) | (go_at_call 12; (with_reducible refine (num_Test.calls 4 a0 a1 t113 _ A17.out).mono ?_); rintro e w' ⟨rfl, ⟨nd, rfl⟩⟩) | (go_at_call 12; (with_reducible refine (num_Test.calls 6 a0 a1 t114 _ A19.out).mono ?_); rintro e w' ⟨rfl, ⟨nd, rfl⟩⟩) | (go_at_call 12; (with_reducible refine (num_Test.calls 5 a1 a0 t115 _ A21.out).mono ?_); rintro e w' ⟨rfl, ⟨nd, rfl⟩⟩))
                  go_ret
                  exact ⟨by first | rfl | (simp; done) | (simp [*]; done), by repeat (first | exact Drawn0.refl _ | apply Drawn0.step)⟩
              · rw [if_neg c20] at H
                have c20b0 : (t114 == (!t109)) = false := by simpa using c20
                (try (have c20b1 : decide (t114 = (!t109)) = false := by simpa using c20))
                (try (have c20b2 : (t114 == (!t109)) = false := by simpa using c20))
                (try (have c20b3 : ¬ (t114 = (!t109)) := by simpa using c20))
                clear c20
                obtain rfl := Option.some.inj H
                go_wp2_with (first | (go_at_call 12; (with_reducible refine (num_Test.calls 2 a0 a1 t112 _ A15.out).mono ?_); rintro e w' ⟨rfl, ⟨nd, rfl⟩⟩) | (go_at_call 12; (with_reducible refine (num_Test.calls 4 a0 a1 t113 _ A17.out).mono ?_); rintro e w' ⟨rfl, ⟨nd, rfl⟩⟩) | (go_at_call 12; (with_reducible refine (num_Test.calls 6 a0 a1 t114 _ A19.out).mono ?_); rintro e w' ⟨rfl, ⟨nd, rfl⟩⟩))
                go_ret
                exact ⟨by first | rfl | (simp; done) | (simp [*]; done), by repeat (first | exact Drawn0.refl _ | apply Drawn0.step)⟩
            · rw [if_neg c18] at H
              have c18b0 : (t113 == (!t111)) = false := by simpa using c18
              (try (have c18b1 : decide (t113 = (!t111)) = false := by simpa using c18))
              (try (have c18b2 : (t113 == (!t111)) = false := by simpa using c18))
              (try (have c18b3 : ¬ (t113 = (!t111)) := by simpa using c18))
              clear c18
              obtain rfl := Option.some.inj H
              go_wp2_with (first | (go_at_call 12; (with_reducible refine (num_Test.calls 2 a0 a1 t112 _ A15.out).mono ?_); rintro e w' ⟨rfl, ⟨nd, rfl⟩⟩) | (go_at_call 12; (with_reducible refine (num_Test.calls 4 a0 a1 t113 _ A17.out).mono ?_); rintro e w' ⟨rfl, ⟨nd, rfl⟩⟩))
              go_ret
              exact ⟨by first | rfl | (simp; done) | (simp [*]; done), by repeat (first | exact Drawn0.refl _ | apply Drawn0.step)⟩
          · rw [if_neg c16] at H
            have c16b0 : (t112 == (!t110)) = false := by simpa using c16
            (try (have c16b1 : decide (t112 = (!t110)) = false := by simpa using c16))
            (try (have c16b2 : (t112 == (!t110)) = false := by simpa using c16))
            (try (have c16b3 : ¬ (t112 = (!t110)) := by simpa using c16))
            clear c16
            obtain rfl := Option.some.inj H
            go_wp2_with (first | (go_at_call 12; (with_reducible refine (num_Test.calls 2 a0 a1 t112 _ A15.out).mono ?_); rintro e w' ⟨rfl, ⟨nd, rfl⟩⟩))
            go_ret
            exact ⟨by first | rfl | (simp; done) | (simp [*]; done), by repeat (first | exact Drawn0.refl _ | apply Drawn0.step)⟩
        · replace c14 := Bool.eq_false_iff.mpr c14
          subst c14
          have H1 : (some false) = some r := by rw [if_neg (show ¬ (false = true) by decide)] at H; exact H
          clear H
          have H := H1
          clear H1
          obtain rfl := Option.some.inj H
          go_wp2
          go_ret
          exact ⟨by first | rfl | (simp; done) | (simp [*]; done), by repeat (first | exact Drawn0.refl _ | apply Drawn0.step)⟩
      · replace c13 := Bool.eq_false_iff.mpr c13
        subst c13
        have H1 : (some false) = some r := by rw [if_neg (show ¬ (false = true) by decide)] at H; exact H
        clear H
        have H := H1
        clear H1
        obtain rfl := Option.some.inj H
        go_wp2
        go_ret
        exact ⟨by first | rfl | (simp; done) | (simp [*]; done), by repeat (first | exact Drawn0.refl _ | apply Drawn0.step)⟩

/-- THE ONE PURE STATEMENT of sibyllaw01_NumTests: yours. -/
def sibyllaw01_NumTests.Pure : Prop := ∀ (a0 : Int) (a1 : Int), (Lit.int .i64 a0).wf = true → (Lit.int .i64 a1).wf = true → ∃ k, sibyllaw01_NumTests.f k a0 a1 = some true
theorem sibyllaw01_NumTests.walk (P : sibyllaw01_NumTests.Pure) (a0 : Int) (a1 : Int) (w : World) (w0 : (Lit.int .i64 a0).wf = true) (w1 : (Lit.int .i64 a1).wf = true) :
    Calls Try.prog 6 #[.int .i64 a0, .int .i64 a1] w fun e w' => e = .returned (.bool true) ∧ Below w.heap.size w w' := by
  obtain ⟨k, h⟩ := P a0 a1 w0 w1
  refine (sibyllaw01_NumTests.calls k a0 a1 true w h).mono ?_
  rintro e w' ⟨rfl, hd⟩
  exact ⟨rfl, hd.below⟩

end Go.Proofs.Ytebphjbfogpndaa.PNumTests
