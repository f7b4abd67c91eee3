/- Chapter 12: EpochRipe's walk. -/
import Derived.Test.YtpklpomajioneaaRipesN
namespace Go.Proofs.Ytpklpomajioneaa
open Go.RowKit
set_option linter.unusedVariables false
set_option linter.unusedSimpArgs false

theorem IntsAt.below {w w' : World} {a : Option Addr} {n : Nat} {zs : List Int} (h : IntsAt w a n zs) (hb : Below w.heap.size w w') : IntsAt w' a n zs := by
  refine ⟨h.len, h.small, fun hp => ?_, h.wf⟩
  obtain ⟨b, off, rfl, h2, hc⟩ := h.cells hp
  exact ⟨b, off, rfl, Nat.lt_of_lt_of_le h2 hb.size, fun i hi => (hb.cell (p := ⟨b, off + i, none⟩) h2).trans (hc i hi)⟩
theorem refs_upd (f : Nat → List OldV) (a : Nat) (sl gn ep : Int) : upd (fun b => (f b).map OldV.ref) a ((f a).map OldV.ref ++ [⟨sl, gn⟩]) = fun b => (upd f a (f a ++ [⟨sl, gn, ep⟩]) b).map OldV.ref := by
  funext b
  unfold upd
  split
  · simp [OldV.ref]
  · rfl
set_option maxHeartbeats 8000000 in
set_option maxRecDepth 100000 in
theorem ripes_law (A : Option Addr) (N cap : Nat) (l : List Int) (bt : Int) (w : World) (hrow : RowAt (kInt .i64) 8 w A N l) (hb : -9223372036854775808 ≤ bt ∧ bt ≤ 9223372036854775807) :
    Calls Try.prog 4 #[.slice A N cap, .int .i64 bt] w fun e w' => e = .returned (.bool true) ∧ Below w.heap.size w w' := by
  have hx := hrow.ints
  have hlen := hx.small
  have HX := Lib.hid hx
  clear hrow hx
  go_enter Try.func4, Try.ntmps4
  go_wp2_with fail
  refine (awake_any _).mono ?_
  rintro e w1 ⟨rfl, b1⟩
  go_wp2_with fail
  refine (new_any 4 _ (by decide) (by decide)).mono ?_
  rintro e w2 ⟨rfl, h2, b2⟩
  have he3 := (h2.lo b1.size).below0 (bl_alloc (Below.refl _ w2) (.cells ((List.range 4).map fun _ => Value.slice none 0 0).toArray 41))
  have hA3 : Arr4 (w2.alloc (.cells ((List.range 4).map fun _ => Value.slice none 0 0).toArray 41)) w.heap.size w2.heap.size (fun _ => []) (fun _ => .slice none 0 0) := ⟨alloc_new w2 _, fun i hi => ⟨rfl, .inl ⟨rfl, rfl⟩⟩, fun i j k hi hj hij hk => (by cases hk)⟩
  have hb3 := bl_alloc (bl_then b1 b2) (.cells ((List.range 4).map fun _ => Value.slice none 0 0).toArray 41)
  have lP := Nat.le_trans b1.size b2.size
  have HE3 := Lib.hid he3
  have HA3 := Lib.hid hA3
  clear he3 hA3 h2
  go_wp2_with fail
  go_loopw [8] (fun i wr => ∃ (I : Nat) (s : EpS) (lv : Nat → Value) (pv : Nat → Value), I ≤ N ∧ I ≤ 20 ∧ i = .int .i64 I ∧ EpAt wr w.heap.size w1.heap.size 4 s lv ∧ Arr4 wr w.heap.size w2.heap.size (fun a => (s.lim a).map OldV.ref) pv ∧ Below w.heap.size w wr ∧ RipeInv I s) (fun i _ => N - (intOf i).toNat)
  case atStart => exact ⟨0, EpS.zero, _, _, Nat.zero_le _, by omega, rfl, HE3.out, HA3.out, hb3, RipeInv.start⟩
  case round =>
    obtain ⟨I, s, lv, pv, hI, hI2, rfl, he, hA, hbl, hInv⟩ := hrel
    clear HE3 HA3 hb3
    generalize w1.heap.size = b at *
    generalize w2.heap.size = P at *
    by_cases h1 : I < N ∧ I < 20
    · obtain ⟨h1, h2⟩ := h1
      obtain ⟨bs, off, rfl, hbs, hc⟩ := HX.out.cells (by omega)
      have c0 := (hbl.cell (p := ⟨bs, off + I, none⟩) hbs).trans (hc I h1)
      obtain ⟨z, hz⟩ : ∃ z, l.getD I 0 = z := ⟨_, rfl⟩
      rw [hz] at c0
      have HA := Lib.hid hA
      have HI := Lib.hid hInv
      have d20 : decide ((I : Int) < 20) = true := decide_eq_true (by omega)
      have e2 : (I : Int).toNat = I := by omega
      have hnw := hInv.nw
      clear hc hz hA hInv
      go_wp2_with fail
      refine (rest_any z 4 _ (by decide) (by decide)).mono ?_
      rintro e w4 ⟨rfl, rfl⟩
      obtain ⟨a, ha⟩ : ∃ a : Nat, z % (4 : Int) = a := ⟨(z % 4).toNat, by omega⟩
      have ha4 : a < 4 := by omega
      have ia : (a : Int) < 4 := by omega
      simp only [ha]
      clear ha c0
      have hln := HI.out.ln a
      cases hbit : (bits BinOp.and IntKind.i64 (bt / 2 ^ I) 1 == 1)
      · go_wp2_with fail
        have hRb := alloc_new wr (.cells #[.int .i64 I, .int .i64 a] 33)
        have heR := he.below0 (bl_alloc (Below.refl _ wr) (.cells #[.int .i64 I, .int .i64 a] 33))
        have hAR := HA.out.below (bl_alloc (Below.refl _ wr) (.cells #[.int .i64 I, .int .i64 a] 33))
        have hbR := bl_alloc hbl (.cells #[.int .i64 I, .int .i64 a] 33)
        generalize wr.alloc (.cells #[.int .i64 I, .int .i64 a] 33) = wR at *
        generalize wr.heap.size = Rb at *
        refine (retire_any heR (a := a) ha4 (I : Int) (a : Int) hbR.size (by show (s.lim a).length ≤ 1000000; omega)).mono ?_
        rintro e w6 ⟨rfl, v6, h6, o6, n6⟩
        have hR6 := o6.block hRb (heR.not_own hRb (by decide) (by decide))
        have hA6 := hAR.step heR o6
        have hb6 := bl_only hbR o6 (fun k hk => heR.own_lo hk)
        have r0 : w6.cell? ⟨Rb, 0, none⟩ = some (.int .i64 I) := cell_of_blk hR6 0
        have r1 : w6.cell? ⟨Rb, 1, none⟩ = some (.int .i64 a) := cell_of_blk hR6 1
        obtain ⟨Ap, cp, hpv⟩ := own_form (hA6.pr a ha4)
        have hLm : ((s.lim a).map OldV.ref).length = (s.lim a).length := List.length_map ..
        have zp := (cell_of_blk hA6.pb a).trans (rngCells_at _ ha4)
        rw [hpv] at zp
        obtain ⟨i0, hi, hz0, hz1, hz2⟩ := info_parts infoRef
        have hr7 := (hA6.pr a ha4).alloc (.cells #[.int .i64 I, .int .i64 a] 33)
        rw [hpv] at hr7
        have hA7 := hA6.below (bl_drew (bl_alloc (Below.refl _ w6) (.cells #[.int .i64 I, .int .i64 a] 33)))
        have hb7 := bl_alloc hb6 (.cells #[.int .i64 I, .int .i64 a] 33)
        have h7 := h6.below0 (bl_drew (bl_alloc (Below.refl _ w6) (.cells #[.int .i64 I, .int .i64 a] 33)))
        have hn7 := World.news_of_block (cs := #[.int .i64 I, .int .i64 a]) (t := 33) (fr := (0, 0)) (alloc_new w6 (.cells #[.int .i64 I, .int .i64 a] 33))
        obtain ⟨Lm, hLM⟩ : ∃ Lm, ((s.lim a).map OldV.ref).length = Lm := ⟨_, rfl⟩
        have hLM2 : Lm ≤ 1000 := by omega
        simp only [hLM] at zp hr7 hpv
        have HA7 := Lib.hid hA7
        have HLM := Lib.hid hLM
        have HPV := Lib.hid hpv
        have HH7 := Lib.hid h7
        have HR7 := Lib.hid hr7
        have HPB7 := Lib.hid hA7.pb
        clear hRb heR hAR hbR h6 o6 n6 hA6 hb6 hLm hpv hA7 h7 hLM
        go_wp2_with fail
        have zp7 : (w6.alloc (.cells #[.int .i64 I, .int .i64 a] 33)).cell? ⟨P, a, none⟩ = some (.slice Ap Lm cp) := (cell_of_blk HPB7.out a).trans (by rw [rngCells_at _ ha4, HPV.out])
        have r70 : (w6.alloc (.cells #[.int .i64 I, .int .i64 a] 33)).cell? ⟨Rb, 0, none⟩ = some (.int .i64 I) := cell_of_blk (Go.Proofs.Ytpklpomajioneaa.alloc_old hR6 _) 0
        have r71 : (w6.alloc (.cells #[.int .i64 I, .int .i64 a] 33)).cell? ⟨Rb, 1, none⟩ = some (.int .i64 a) := cell_of_blk (Go.Proofs.Ytpklpomajioneaa.alloc_old hR6 _) 1
        have hr7d : (w6.alloc (.cells #[.int .i64 I, .int .i64 a] 33)).drew.ownsRow w.heap.size 33 2 (.slice Ap Lm cp) Lm (refCells ((s.lim a).map OldV.ref)) := HR7.out
        have hz7 : (w6.alloc (.cells #[.int .i64 I, .int .i64 a] 33)).drew.heap.size = w6.heap.size + 1 := by simp [World.drew]
        have hb7d : Below w.heap.size w (w6.alloc (.cells #[.int .i64 I, .int .i64 a] 33)).drew := bl_drew hb7
        have HPB7d : (w6.alloc (.cells #[.int .i64 I, .int .i64 a] 33)).drew.heap[P]? = _ := HPB7.out
        go_region_law (first | (refine step_append_lies _ (by rfl) _ _ _ (by rfl) w.heap.size 33 i0 _ 2 16 Try.underlying37 hi hz0 hz1 hz2 rfl (by decide) (.slice Ap Lm cp) Lm (refCells ((s.lim a).map OldV.ref)) (by rfl) hr7d ⟨w6.heap.size, 0, none⟩ 1 1 [.int .i64 I, .int .i64 a] (by rfl) (by rfl) hn7 (by simp [Value.oneCell']) (by decide) (by simp only [maxLen]; omega) (by omega) (by have := hb7d.size; omega) _ rfl ?_; intro g cap8 w8 hown8 hgr8 hat8 _; have hp8 := (only_grown (S := fun k => (Value.slice Ap Lm cp).ownBlock = some k) (Only.refl _ _) hgr8 (fun k hk => .inl hk)).block HPB7d (fun hk => absurd (own_type HR7.out hk HPB7.out) (by decide)); have zp8 := (cell_of_blk hp8 a).trans (rngCells_at _ ha4); have fp8 := free_of_blk hp8 a))
        all_goals
          have ho8 : Only (fun k => (pv a).ownBlock = some k) (w6.alloc (.cells #[.int .i64 I, .int .i64 a] 33)).drew w8 := only_grown (Only.refl _ _) hgr8 (fun k hk => .inl (by rw [HPV.out]; exact hk))
          have ho9 : Only (fun k => k = P) w8 (w8.setCell ⟨P, a, none⟩ (.slice (some ⟨g, 0, none⟩) (Lm + 1) cap8)) := (Only.refl (fun k => k = P) w8).setCell _ _ (.inl rfl)
          have hA9 := HA7.out.put ha4 (l := (s.lim a).map OldV.ref ++ [⟨(I : Int), (a : Int)⟩]) (v := .slice (some ⟨g, 0, none⟩) (Lm + 1) cap8) (by rw [List.length_append, HLM.out, refCells_append]; exact hown8) (.inr (by rw [HPV.out])) hgr8 (fun k hk => by
            injection hk with hk
            change g = k at hk
            subst hk
            rw [HPV.out]
            rcases hat8 with h1 | h1
            · exact .inl h1
            · refine .inr (fun i hi hk2 => ?_)
              have := Go.Proofs.Ytpklpomajioneaa.own_lt (HA7.out.pr i hi) hk2
              omega)
          rw [refs_upd s.lim a (I : Int) (a : Int) (((s.now : Nat) : Int))] at hA9
          have hE8 := HH7.out.kept ho8 (fun k hk => by
            obtain ⟨cs, hc⟩ := own_type' (HA7.out.pr a ha4) hk
            exact HH7.out.not_own hc (by decide) (by decide))
          have hE9 := hE8.kept ho9 (by rintro k rfl; exact hE8.not_own hp8 (by decide) (by decide))
          have hb9 := bl_only (bl_only hb7d ho8 (fun k hk => own_block (HA7.out.pr a ha4) hk)) ho9 (by rintro k rfl; exact lP)
          have HA9 := Lib.hid hA9
          have HE9 := Lib.hid hE9
          clear hA9 hE9 hE8 hp8 zp8 fp8 hown8 hgr8 hat8 ho8 ho9 zp r0 r1
          go_wp2_with fail
          refine ⟨⟨I + 1, ⟨s.now, s.pin, upd s.lim a (s.lim a ++ [⟨(I : Int), (a : Int), ((s.now : Nat) : Int)⟩])⟩, _, _, by omega, by omega, by simp, HE9.out, HA9.out, hb9, HI.out.retire 0 (by decide) a _ _⟩, ?_⟩
          simp [intOf]
          omega
      · go_wp2_with fail
        refine (advance_yes he (by omega) HI.out.unblocked).mono ?_
        rintro e w5 ⟨rfl, h5, o5⟩
        have hA5 := HA.out.step he (o5.mono (fun k hk => .inl hk))
        have hb5 := bl_only hbl o5 (by rintro k rfl; exact he.lob)
        clear o5
        go_wp2_with fail
        have hRb := alloc_new w5 (.cells #[.int .i64 I, .int .i64 a] 33)
        have heR := h5.below0 (bl_alloc (Below.refl _ w5) (.cells #[.int .i64 I, .int .i64 a] 33))
        have hAR := hA5.below (bl_alloc (Below.refl _ w5) (.cells #[.int .i64 I, .int .i64 a] 33))
        have hbR := bl_alloc hb5 (.cells #[.int .i64 I, .int .i64 a] 33)
        generalize w5.alloc (.cells #[.int .i64 I, .int .i64 a] 33) = wR at *
        generalize w5.heap.size = Rb at *
        refine (retire_any heR (a := a) ha4 (I : Int) (a : Int) hbR.size (by show (s.lim a).length ≤ 1000000; omega)).mono ?_
        rintro e w6 ⟨rfl, v6, h6, o6, n6⟩
        have hR6 := o6.block hRb (heR.not_own hRb (by decide) (by decide))
        have hA6 := hAR.step heR o6
        have hb6 := bl_only hbR o6 (fun k hk => heR.own_lo hk)
        have r0 : w6.cell? ⟨Rb, 0, none⟩ = some (.int .i64 I) := cell_of_blk hR6 0
        have r1 : w6.cell? ⟨Rb, 1, none⟩ = some (.int .i64 a) := cell_of_blk hR6 1
        obtain ⟨Ap, cp, hpv⟩ := own_form (hA6.pr a ha4)
        have hLm : ((s.lim a).map OldV.ref).length = (s.lim a).length := List.length_map ..
        have zp := (cell_of_blk hA6.pb a).trans (rngCells_at _ ha4)
        rw [hpv] at zp
        obtain ⟨i0, hi, hz0, hz1, hz2⟩ := info_parts infoRef
        have hr7 := (hA6.pr a ha4).alloc (.cells #[.int .i64 I, .int .i64 a] 33)
        rw [hpv] at hr7
        have hA7 := hA6.below (bl_drew (bl_alloc (Below.refl _ w6) (.cells #[.int .i64 I, .int .i64 a] 33)))
        have hb7 := bl_alloc hb6 (.cells #[.int .i64 I, .int .i64 a] 33)
        have h7 := h6.below0 (bl_drew (bl_alloc (Below.refl _ w6) (.cells #[.int .i64 I, .int .i64 a] 33)))
        have hn7 := World.news_of_block (cs := #[.int .i64 I, .int .i64 a]) (t := 33) (fr := (0, 0)) (alloc_new w6 (.cells #[.int .i64 I, .int .i64 a] 33))
        obtain ⟨Lm, hLM⟩ : ∃ Lm, ((s.lim a).map OldV.ref).length = Lm := ⟨_, rfl⟩
        have hLM2 : Lm ≤ 1000 := by omega
        simp only [hLM] at zp hr7 hpv
        have HA7 := Lib.hid hA7
        have HLM := Lib.hid hLM
        have HPV := Lib.hid hpv
        have HH7 := Lib.hid h7
        have HR7 := Lib.hid hr7
        have HPB7 := Lib.hid hA7.pb
        clear hRb heR hAR hbR h6 o6 n6 hA6 hb6 hLm hpv hA7 h7 hLM
        go_wp2_with fail
        have zp7 : (w6.alloc (.cells #[.int .i64 I, .int .i64 a] 33)).cell? ⟨P, a, none⟩ = some (.slice Ap Lm cp) := (cell_of_blk HPB7.out a).trans (by rw [rngCells_at _ ha4, HPV.out])
        have r70 : (w6.alloc (.cells #[.int .i64 I, .int .i64 a] 33)).cell? ⟨Rb, 0, none⟩ = some (.int .i64 I) := cell_of_blk (Go.Proofs.Ytpklpomajioneaa.alloc_old hR6 _) 0
        have r71 : (w6.alloc (.cells #[.int .i64 I, .int .i64 a] 33)).cell? ⟨Rb, 1, none⟩ = some (.int .i64 a) := cell_of_blk (Go.Proofs.Ytpklpomajioneaa.alloc_old hR6 _) 1
        have hr7d : (w6.alloc (.cells #[.int .i64 I, .int .i64 a] 33)).drew.ownsRow w.heap.size 33 2 (.slice Ap Lm cp) Lm (refCells ((s.lim a).map OldV.ref)) := HR7.out
        have hz7 : (w6.alloc (.cells #[.int .i64 I, .int .i64 a] 33)).drew.heap.size = w6.heap.size + 1 := by simp [World.drew]
        have hb7d : Below w.heap.size w (w6.alloc (.cells #[.int .i64 I, .int .i64 a] 33)).drew := bl_drew hb7
        have HPB7d : (w6.alloc (.cells #[.int .i64 I, .int .i64 a] 33)).drew.heap[P]? = _ := HPB7.out
        go_region_law (first | (refine step_append_lies _ (by rfl) _ _ _ (by rfl) w.heap.size 33 i0 _ 2 16 Try.underlying37 hi hz0 hz1 hz2 rfl (by decide) (.slice Ap Lm cp) Lm (refCells ((s.lim a).map OldV.ref)) (by rfl) hr7d ⟨w6.heap.size, 0, none⟩ 1 1 [.int .i64 I, .int .i64 a] (by rfl) (by rfl) hn7 (by simp [Value.oneCell']) (by decide) (by simp only [maxLen]; omega) (by omega) (by have := hb7d.size; omega) _ rfl ?_; intro g cap8 w8 hown8 hgr8 hat8 _; have hp8 := (only_grown (S := fun k => (Value.slice Ap Lm cp).ownBlock = some k) (Only.refl _ _) hgr8 (fun k hk => .inl hk)).block HPB7d (fun hk => absurd (own_type HR7.out hk HPB7.out) (by decide)); have zp8 := (cell_of_blk hp8 a).trans (rngCells_at _ ha4); have fp8 := free_of_blk hp8 a))
        all_goals
          have ho8 : Only (fun k => (pv a).ownBlock = some k) (w6.alloc (.cells #[.int .i64 I, .int .i64 a] 33)).drew w8 := only_grown (Only.refl _ _) hgr8 (fun k hk => .inl (by rw [HPV.out]; exact hk))
          have ho9 : Only (fun k => k = P) w8 (w8.setCell ⟨P, a, none⟩ (.slice (some ⟨g, 0, none⟩) (Lm + 1) cap8)) := (Only.refl (fun k => k = P) w8).setCell _ _ (.inl rfl)
          have hA9 := HA7.out.put ha4 (l := (s.lim a).map OldV.ref ++ [⟨(I : Int), (a : Int)⟩]) (v := .slice (some ⟨g, 0, none⟩) (Lm + 1) cap8) (by rw [List.length_append, HLM.out, refCells_append]; exact hown8) (.inr (by rw [HPV.out])) hgr8 (fun k hk => by
            injection hk with hk
            change g = k at hk
            subst hk
            rw [HPV.out]
            rcases hat8 with h1 | h1
            · exact .inl h1
            · refine .inr (fun i hi hk2 => ?_)
              have := Go.Proofs.Ytpklpomajioneaa.own_lt (HA7.out.pr i hi) hk2
              omega)
          rw [refs_upd s.lim a (I : Int) (a : Int) ((((s.now + 1) : Nat) : Int))] at hA9
          have hE8 := HH7.out.kept ho8 (fun k hk => by
            obtain ⟨cs, hc⟩ := own_type' (HA7.out.pr a ha4) hk
            exact HH7.out.not_own hc (by decide) (by decide))
          have hE9 := hE8.kept ho9 (by rintro k rfl; exact hE8.not_own hp8 (by decide) (by decide))
          have hb9 := bl_only (bl_only hb7d ho8 (fun k hk => own_block (HA7.out.pr a ha4) hk)) ho9 (by rintro k rfl; exact lP)
          have HA9 := Lib.hid hA9
          have HE9 := Lib.hid hE9
          clear hA9 hE9 hE8 hp8 zp8 fp8 hown8 hgr8 hat8 ho8 ho9 zp r0 r1
          go_wp2_with fail
          refine ⟨⟨I + 1, ⟨(s.now + 1), s.pin, upd s.lim a (s.lim a ++ [⟨(I : Int), (a : Int), (((s.now + 1) : Nat) : Int)⟩])⟩, _, _, by omega, by omega, by simp, HE9.out, HA9.out, hb9, HI.out.retire 1 (by decide) a _ _⟩, ?_⟩
          simp [intOf]
          omega
    · have hx : I < N ∧ I = 20 ∨ ¬ I < N := by omega
      have lZ := hbl.size
      have he2 := he.below0 (bl_alloc (Below.refl _ wr) (.cells ((List.range 4).map fun _ => Value.slice none 0 0).toArray 41))
      have hA2 := hA.below (bl_alloc (Below.refl _ wr) (.cells ((List.range 4).map fun _ => Value.slice none 0 0).toArray 41))
      have hG2 : Arr4 (wr.alloc (.cells ((List.range 4).map fun _ => Value.slice none 0 0).toArray 41)) wr.heap.size wr.heap.size (tolds 0 s) (fun _ => .slice none 0 0) := ⟨alloc_new wr _, fun i hi => ⟨rfl, .inl ⟨rfl, rfl⟩⟩, fun i j k hi hj hij hk => (by cases hk)⟩
      have hZ : ∀ i k, i < 4 → (pv i).ownBlock = some k → k < wr.heap.size := fun i k hi hk => Go.Proofs.Ytpklpomajioneaa.own_lt (hA.pr i hi) hk
      have hPZ : P < wr.heap.size := block_lt hA.pb
      have hb2 := bl_alloc hbl (.cells ((List.range 4).map fun _ => Value.slice none 0 0).toArray 41)
      have hs2 : wr.heap.size ≤ (wr.alloc (.cells ((List.range 4).map fun _ => Value.slice none 0 0).toArray 41)).heap.size := by simp
      have hnw : s.now ≤ 20 := by have := hInv.nw; omega
      have hln : ∀ a, (s.lim a).length ≤ 20 := fun a => by have := hInv.ln a; omega
      have HE2 := Lib.hid he2
      have HA2 := Lib.hid hA2
      have HG2 := Lib.hid hG2
      have HB2 := Lib.hid hb2
      have HS2 := Lib.hid hs2
      have HZ := Lib.hid hZ
      have HL := Lib.hid hln
      have HI := Lib.hid hInv
      have d20 : I = 20 → decide ((I : Int) < 20) = false := fun h => decide_eq_false (by omega)
      clear he hA he2 hA2 hG2 hZ hb2 hs2 hln hInv HX
      rcases hx with ⟨h1, h2⟩ | h1
      · have d20 := d20 h2
        clear h2
        go_wp2_with fail
        generalize wr.heap.size = Z at *
        go_loopw [12] (fun i wx => ∃ (K : Nat) (lx : Nat → Value) (qv : Nat → Value), K ≤ 4 ∧ i = .int .i64 K ∧ EpAt wx w.heap.size b 4 (kepts K s) lx ∧ Arr4 wx w.heap.size P (fun a => (s.lim a).map OldV.ref) pv ∧ Arr4 wx Z Z (tolds K s) qv ∧ Below w.heap.size w wx ∧ Z ≤ wx.heap.size) (fun i _ => 4 - (intOf i).toNat)
        case atStart => exact ⟨0, _, _, Nat.zero_le _, rfl, HE2.out, HA2.out, HG2.out, HB2.out, HS2.out⟩
        case round =>
          obtain ⟨K, lx, qv, hK, rfl, he, hA, hG, hbx, hzx⟩ := hrel
          clear HE2 HA2 HG2 HB2 HS2
          by_cases hk4 : K < 4
          · have ik4 : (K : Int) < 4 := by omega
            have hlk := HL.out K
            have eK : ((K : Nat) : Int).toNat = K := by omega
            have HA := Lib.hid hA
            have HG := Lib.hid hG
            have HE := Lib.hid he
            clear hA hG he
            go_wp2_with fail
            refine (ripe_to HE.out (a := K) hk4 (by show s.now ≤ 1000000; omega) (by rw [kepts_lim (Nat.lt_irrefl _)]; omega) (toldOf s.now (s.lim K)) (by rw [kepts_lim (Nat.lt_irrefl _)]; rfl) (keptOf s.now (s.lim K)) (by rw [kepts_lim (Nat.lt_irrefl _)]; rfl)).mono ?_
            rintro e w4 ⟨A4, c4, v4, rfl, own4, h4, o4, n4⟩
            rw [kepts_succ] at h4
            have hA4 := HA.out.step HE.out o4
            have hG4 := HG.out.step HE.out o4
            have hb4 := bl_only hbx o4 (fun k hk => HE.out.own_lo hk)
            have hz4 : Z ≤ w4.heap.size := Nat.le_trans hzx o4.size
            have zq := (cell_of_blk hG4.pb K).trans (rngCells_at _ hk4)
            have fq := free_of_blk hG4.pb K
            obtain ⟨m4, hm4⟩ : ∃ m4, (toldOf s.now (s.lim K)).length = m4 := ⟨_, rfl⟩
            simp only [hm4]
            have ho5 : Only (fun k => k = Z) w4 (w4.setCell ⟨Z, K, none⟩ (.slice A4 m4 c4)) := (Only.refl (fun k => k = Z) w4).setCell _ _ (.inl rfl)
            have hG5 := hG4.put hk4 (l := toldOf s.now (s.lim K)) (v := .slice A4 m4 c4) (by rw [← hm4]; exact ownsRow_base own4 hzx) (.inl rfl) (World.grownBy.refl _ _) (fun k hk => .inr (fun i hi hk2 => by
              have h1 := Go.Proofs.Ytpklpomajioneaa.own_lt (HG.out.pr i hi) hk2
              have h2 := own_block own4 (show (Value.slice A4 (toldOf s.now (s.lim K)).length c4).ownBlock = some k by rw [hm4]; exact hk)
              omega))
            rw [tolds_succ] at hG5
            have hA5 := hA4.kept ho5 (by omega) (fun i hi k hk hk2 => by have := HZ.out i k hi hk; omega)
            have hE5 := h4.kept ho5 (by rintro k rfl; exact h4.not_own hG4.pb (by decide) (by decide))
            have hb5 := bl_only hb4 ho5 (by rintro k rfl; exact lZ)
            have HA5 := Lib.hid hA5
            have HG5 := Lib.hid hG5
            have HE5 := Lib.hid hE5
            clear hA4 hG4 hA5 hG5 hE5 h4 own4 o4 n4 ho5 hb4
            go_wp2_with fail
            refine ⟨⟨K + 1, _, _, hk4, by simp, HE5.out, HA5.out, HG5.out, hb5, by simpa [World.setCell] using hz4⟩, ?_⟩
            simp [intOf]
            omega
          · have e4 : K = 4 := by omega
            rw [e4] at he hG
            have hbl4 : (kepts 4 s).blocked = false := unpinned_free HI.out.pin
            have hbl5 : ({ kepts 4 s with now := s.now + 1 } : EpS).blocked = false := unpinned_free HI.out.pin
            have HA := Lib.hid hA
            have HG := Lib.hid hG
            have HE := Lib.hid he
            have ik4 : ¬ (K : Int) < 4 := by omega
            clear hA hG he e4 hK
            go_wp2_with fail
            refine (advance_yes HE.out (by show s.now ≤ 1000000; omega) hbl4).mono ?_
            rintro e w4 ⟨rfl, h4, o4⟩
            have hA4 := HA.out.step HE.out (o4.mono (fun k hk => .inl hk))
            have hG4 := HG.out.step HE.out (o4.mono (fun k hk => .inl hk))
            have hb4 := bl_only hbx o4 (by rintro k rfl; exact HE.out.lob)
            have hz4 : Z ≤ w4.heap.size := Nat.le_trans hzx o4.size
            clear o4 HA HG HE hbx hzx
            go_wp2_with fail
            refine (advance_yes h4 (by show s.now + 1 ≤ 1000000; omega) hbl5).mono ?_
            rintro e w5 ⟨rfl, h5, o5⟩
            have hA5 := hA4.step h4 (o5.mono (fun k hk => .inl hk))
            have hG5 := Got.of_arr (hG4.step h4 (o5.mono (fun k hk => .inl hk)))
            have hb5 := bl_only hb4 o5 (by rintro k rfl; exact h4.lob)
            have hz5 : Z ≤ w5.heap.size := Nat.le_trans hz4 o5.size
            rw [show ({ ({ kepts 4 s with now := (kepts 4 s).now + 1 } : EpS) with now := ({ kepts 4 s with now := (kepts 4 s).now + 1 } : EpS).now + 1 } : EpS) = lasts 0 s from rfl] at h5
            have HA5 := Lib.hid hA5
            have HG5 := Lib.hid hG5
            have HE5 := Lib.hid h5
            clear o5 hA5 hG5 h5 h4 hA4 hG4 hb4 hz4
            go_wp2_with fail
            go_loopw [15] (fun i wx => ∃ (K : Nat) (lx : Nat → Value), K ≤ 4 ∧ i = .int .i64 K ∧ EpAt wx w.heap.size b 4 (lasts K s) lx ∧ Arr4 wx w.heap.size P (fun a => (s.lim a).map OldV.ref) pv ∧ Got wx K Z (tolds 4 s) qv ∧ Below w.heap.size w wx ∧ Z ≤ wx.heap.size) (fun i _ => 4 - (intOf i).toNat)
            case atStart => exact ⟨0, _, Nat.zero_le _, rfl, HE5.out, HA5.out, HG5.out, hb5, hz5⟩
            case round =>
              obtain ⟨J, lx, hJ, rfl, he, hA, hG, hbx, hzx⟩ := hrel
              clear HE5 HA5 HG5 hb5 hz5
              by_cases hj4 : J < 4
              · have ij4 : (J : Int) < 4 := by omega
                have hlj := HL.out J
                have eJ : ((J : Nat) : Int).toNat = J := by omega
                obtain ⟨hall, hnone⟩ := ripe_all s.now (s.lim J) (HI.out.srt J) (HI.out.le J)
                have hlJ : (lasts J s).lim J = keptOf s.now (s.lim J) := lasts_lim (Nat.lt_irrefl _) hj4 s
                have htJ : tolds 4 s J = toldOf s.now (s.lim J) := if_pos hj4
                have hown := hG.gr J (Nat.le_refl _) hj4
                rw [htJ] at hown
                obtain ⟨Aq, cq, hqv⟩ := own_form hown
                have q0 := (cell_of_blk hG.gb J).trans (rngCells_at _ hj4)
                rw [hqv] at q0 hown
                obtain ⟨T1, hT1⟩ : ∃ T1, toldOf s.now (s.lim J) = T1 := ⟨_, rfl⟩
                obtain ⟨T2, hT2⟩ : ∃ T2, toldOf ((s.now + 1 + 1 : Nat) : Int) (keptOf s.now (s.lim J)) = T2 := ⟨_, rfl⟩
                obtain ⟨Ap, cp, hpv⟩ := own_form (hA.pr J hj4)
                obtain ⟨m, hm⟩ : ∃ m, ((s.lim J).map OldV.ref).length = m := ⟨_, rfl⟩
                have hm20 : m ≤ 20 := by rw [← hm, List.length_map]; exact hlj
                rw [hT1, hT2] at hall
                have hmm : T1.length + T2.length = m := by rw [← hm, ← hall, List.length_append]
                obtain ⟨m1, hm1⟩ : ∃ m1, T1.length = m1 := ⟨_, rfl⟩
                obtain ⟨m2, hm2⟩ : ∃ m2, T2.length = m2 := ⟨_, rfl⟩
                rw [hm1, hm2] at hmm
                rw [hT1, hm1] at hown q0 hqv
                rw [hm] at hpv
                have hl0 : ((lasts (J + 1) s).lim J).length = 0 := by rw [lasts_lim0 (Nat.lt_succ_self _)]; rfl
                have HM := Lib.hid hm
                have HM1 := Lib.hid hm1
                have HM2 := Lib.hid hm2
                have HALL := Lib.hid hall
                have HPV := Lib.hid hpv
                have HQV := Lib.hid hqv
                have HA := Lib.hid hA
                have HG := Lib.hid hG
                have HE := Lib.hid he
                have HOWN := Lib.hid hown
                clear hA hG he hm hm1 hm2 hall hpv hqv hown
                have q0d : wr.drew.cell? ⟨Z, J, none⟩ = some (.slice Aq m1 cq) := q0
                have HEd : Hid (EpAt wr.drew w.heap.size b 4 (lasts J s) lx) := Lib.hid (HE.out.below0 (bl_drew (Below.refl _ _)))
                have HAd : Hid (Arr4 wr.drew w.heap.size P (fun a => (s.lim a).map OldV.ref) pv) := Lib.hid (HA.out.below (bl_drew (Below.refl _ _)))
                have HGd : Hid (Got wr.drew J Z (tolds 4 s) qv) := Lib.hid (HG.out.below (bl_drew (Below.refl _ _)))
                have HBd : Hid (Below w.heap.size w wr.drew) := Lib.hid (bl_drew hbx)
                have HZd : Hid (Z ≤ wr.drew.heap.size) := Lib.hid hzx
                go_wp2_with fail
                go_region_held3 (fun w' => w'.cell? ⟨Z, J, none⟩ = some (.slice Aq m1 cq)) (first | exact q5 | exact q4 | exact q0d) (first
                  | (go_at_call 15; refine (ripe_len HEd.out (a := J) hj4 (by show s.now + 1 + 1 ≤ 1000000; omega) (by rw [hlJ]; have := kept_len s.now (s.lim J); omega) T2 (by rw [hlJ]; exact hT2) [] (by rw [hlJ]; exact hnone) m2 HM2.out).mono ?_; rintro e w4 ⟨A4, c4, v4, rfl, own4, h4, o4, n4⟩; rw [lasts_succ] at h4; have hA4 := HAd.out.step HEd.out o4; have hG4 := HGd.out.step HEd.out o4; have hb4 := bl_only HBd.out o4 (fun k hk => HEd.out.own_lo hk); have hz4 : Z ≤ w4.heap.size := Nat.le_trans HZd.out o4.size; have q4 : w4.cell? ⟨Z, J, none⟩ = some (.slice Aq m1 cq) := (by rw [← HQV.out]; exact (cell_of_blk hG4.gb J).trans (rngCells_at _ hj4)); have hG4own := hG4.gr J (Nat.le_refl _) hj4; rw [htJ, hT1, HM1.out, HQV.out] at hG4own; have hR4 := Reads.of_own own4 (refs_one T2))
                  | (have hlater := own4; refine step_append_refs (by rfl) _ _ (by rfl) (lo := Z) (cs := T1) (n := m1) hG4own (by rfl) (m := m2) (ds := T2) hR4 (by rfl) (by omega) hz4 m (by omega) ?_; intro A5 c5 w5 own5 hgr5; rw [← HQV.out] at hgr5; have hG5 := hG4.grown hj4 hgr5; have q5 : w5.cell? ⟨Z, J, none⟩ = some (.slice Aq m1 cq) := (by rw [← HQV.out]; exact (cell_of_blk hG5.gb J).trans (rngCells_at _ hj4))))
                have hA5 := hA4.grown hG4 hj4 HZ.out hgr5
                have hE5 := h4.grown hG4 hj4 hgr5
                have hb5 := hG4.grown_below hj4 hgr5 hb4 lZ
                have hz5 : Z ≤ w5.heap.size := Nat.le_trans hz4 hgr5.size
                have zp5 : w5.cell? ⟨P, J, none⟩ = some (.slice Ap m cp) := by rw [← HPV.out]; exact (cell_of_blk hA5.pb J).trans (rngCells_at _ hj4)
                rw [HALL.out] at own5
                have refsA := RefsAt.of_own own5
                have ownP := hA5.pr J hj4
                simp only [HPV.out, HM.out] at ownP
                have refsP := RefsAt.of_own ownP
                have HA5 := Lib.hid hA5
                have HG5 := Lib.hid hG5
                have HE5 := Lib.hid hE5
                clear hA5 hE5 hG5 own5 ownP hgr5 h4 o4 n4 hA4 hG4 hb4 hz4 hG4own hR4 own4 HE HA HG HEd HAd HGd HBd HZd hbx hzx q0 q0d q4 q5 HOWN
                go_wp2_with fail
                refine (same_yes refsA refsP (by omega)).mono ?_
                rintro e w6 ⟨rfl, q6, rfl⟩
                clear refsA refsP zp5
                have HE6 : Hid (EpAt (w5.drewN q6) w.heap.size b 4 (lasts (J + 1) s) _) := Lib.hid (HE5.out.below0 (bl_drewN (Below.refl _ _) q6))
                go_wp2_with fail
                refine (limbo_any HE6.out (a := J) hj4).mono ?_
                rintro e w7 ⟨rfl, rfl⟩
                simp only [hl0]
                go_wp2_with fail
                refine (ripe_len HE6.out (a := J) hj4 (by show s.now + 1 + 1 ≤ 1000000; omega) (by rw [hl0]; omega) [] (by rw [lasts_lim0 (Nat.lt_succ_self _)]; rfl) [] (by rw [lasts_lim0 (Nat.lt_succ_self _)]; rfl) 0 rfl).mono ?_
                rintro e w8 ⟨A8, c8, v8, rfl, own8, h8, o8, n8⟩
                rw [lasts_again] at h8
                have hA8 := (HA5.out.below (bl_drewN (Below.refl _ _) q6)).step HE6.out o8
                have hG8 := (HG5.out.below (bl_drewN (Below.refl _ _) q6)).step HE6.out o8
                have hb8 := bl_only (bl_drewN hb5 q6) o8 (fun k hk => HE6.out.own_lo hk)
                have hz8 : Z ≤ w8.heap.size := Nat.le_trans hz5 o8.size
                have HA8 := Lib.hid hA8
                have HG8 := Lib.hid hG8
                have HE8 := Lib.hid h8
                clear own8 o8 n8 hA8 hG8 h8 HE5 HA5 HG5 HE6 hb5 hz5
                go_wp2_with fail
                refine ⟨⟨J + 1, _, hj4, by simp, HE8.out, HA8.out, HG8.out, hb8, hz8⟩, ?_⟩
                simp [intOf]
                omega
              · have ij4 : ¬ (J : Int) < 4 := by omega
                clear hJ
                go_wp2_with fail
                go_ret
                exact ⟨rfl, hbx⟩
      · clear d20
        go_wp2_with fail
        generalize wr.heap.size = Z at *
        go_loopw [12] (fun i wx => ∃ (K : Nat) (lx : Nat → Value) (qv : Nat → Value), K ≤ 4 ∧ i = .int .i64 K ∧ EpAt wx w.heap.size b 4 (kepts K s) lx ∧ Arr4 wx w.heap.size P (fun a => (s.lim a).map OldV.ref) pv ∧ Arr4 wx Z Z (tolds K s) qv ∧ Below w.heap.size w wx ∧ Z ≤ wx.heap.size) (fun i _ => 4 - (intOf i).toNat)
        case atStart => exact ⟨0, _, _, Nat.zero_le _, rfl, HE2.out, HA2.out, HG2.out, HB2.out, HS2.out⟩
        case round =>
          obtain ⟨K, lx, qv, hK, rfl, he, hA, hG, hbx, hzx⟩ := hrel
          clear HE2 HA2 HG2 HB2 HS2
          by_cases hk4 : K < 4
          · have ik4 : (K : Int) < 4 := by omega
            have hlk := HL.out K
            have eK : ((K : Nat) : Int).toNat = K := by omega
            have HA := Lib.hid hA
            have HG := Lib.hid hG
            have HE := Lib.hid he
            clear hA hG he
            go_wp2_with fail
            refine (ripe_to HE.out (a := K) hk4 (by show s.now ≤ 1000000; omega) (by rw [kepts_lim (Nat.lt_irrefl _)]; omega) (toldOf s.now (s.lim K)) (by rw [kepts_lim (Nat.lt_irrefl _)]; rfl) (keptOf s.now (s.lim K)) (by rw [kepts_lim (Nat.lt_irrefl _)]; rfl)).mono ?_
            rintro e w4 ⟨A4, c4, v4, rfl, own4, h4, o4, n4⟩
            rw [kepts_succ] at h4
            have hA4 := HA.out.step HE.out o4
            have hG4 := HG.out.step HE.out o4
            have hb4 := bl_only hbx o4 (fun k hk => HE.out.own_lo hk)
            have hz4 : Z ≤ w4.heap.size := Nat.le_trans hzx o4.size
            have zq := (cell_of_blk hG4.pb K).trans (rngCells_at _ hk4)
            have fq := free_of_blk hG4.pb K
            obtain ⟨m4, hm4⟩ : ∃ m4, (toldOf s.now (s.lim K)).length = m4 := ⟨_, rfl⟩
            simp only [hm4]
            have ho5 : Only (fun k => k = Z) w4 (w4.setCell ⟨Z, K, none⟩ (.slice A4 m4 c4)) := (Only.refl (fun k => k = Z) w4).setCell _ _ (.inl rfl)
            have hG5 := hG4.put hk4 (l := toldOf s.now (s.lim K)) (v := .slice A4 m4 c4) (by rw [← hm4]; exact ownsRow_base own4 hzx) (.inl rfl) (World.grownBy.refl _ _) (fun k hk => .inr (fun i hi hk2 => by
              have h1 := Go.Proofs.Ytpklpomajioneaa.own_lt (HG.out.pr i hi) hk2
              have h2 := own_block own4 (show (Value.slice A4 (toldOf s.now (s.lim K)).length c4).ownBlock = some k by rw [hm4]; exact hk)
              omega))
            rw [tolds_succ] at hG5
            have hA5 := hA4.kept ho5 (by omega) (fun i hi k hk hk2 => by have := HZ.out i k hi hk; omega)
            have hE5 := h4.kept ho5 (by rintro k rfl; exact h4.not_own hG4.pb (by decide) (by decide))
            have hb5 := bl_only hb4 ho5 (by rintro k rfl; exact lZ)
            have HA5 := Lib.hid hA5
            have HG5 := Lib.hid hG5
            have HE5 := Lib.hid hE5
            clear hA4 hG4 hA5 hG5 hE5 h4 own4 o4 n4 ho5 hb4
            go_wp2_with fail
            refine ⟨⟨K + 1, _, _, hk4, by simp, HE5.out, HA5.out, HG5.out, hb5, by simpa [World.setCell] using hz4⟩, ?_⟩
            simp [intOf]
            omega
          · have e4 : K = 4 := by omega
            rw [e4] at he hG
            have hbl4 : (kepts 4 s).blocked = false := unpinned_free HI.out.pin
            have hbl5 : ({ kepts 4 s with now := s.now + 1 } : EpS).blocked = false := unpinned_free HI.out.pin
            have HA := Lib.hid hA
            have HG := Lib.hid hG
            have HE := Lib.hid he
            have ik4 : ¬ (K : Int) < 4 := by omega
            clear hA hG he e4 hK
            go_wp2_with fail
            refine (advance_yes HE.out (by show s.now ≤ 1000000; omega) hbl4).mono ?_
            rintro e w4 ⟨rfl, h4, o4⟩
            have hA4 := HA.out.step HE.out (o4.mono (fun k hk => .inl hk))
            have hG4 := HG.out.step HE.out (o4.mono (fun k hk => .inl hk))
            have hb4 := bl_only hbx o4 (by rintro k rfl; exact HE.out.lob)
            have hz4 : Z ≤ w4.heap.size := Nat.le_trans hzx o4.size
            clear o4 HA HG HE hbx hzx
            go_wp2_with fail
            refine (advance_yes h4 (by show s.now + 1 ≤ 1000000; omega) hbl5).mono ?_
            rintro e w5 ⟨rfl, h5, o5⟩
            have hA5 := hA4.step h4 (o5.mono (fun k hk => .inl hk))
            have hG5 := Got.of_arr (hG4.step h4 (o5.mono (fun k hk => .inl hk)))
            have hb5 := bl_only hb4 o5 (by rintro k rfl; exact h4.lob)
            have hz5 : Z ≤ w5.heap.size := Nat.le_trans hz4 o5.size
            rw [show ({ ({ kepts 4 s with now := (kepts 4 s).now + 1 } : EpS) with now := ({ kepts 4 s with now := (kepts 4 s).now + 1 } : EpS).now + 1 } : EpS) = lasts 0 s from rfl] at h5
            have HA5 := Lib.hid hA5
            have HG5 := Lib.hid hG5
            have HE5 := Lib.hid h5
            clear o5 hA5 hG5 h5 h4 hA4 hG4 hb4 hz4
            go_wp2_with fail
            go_loopw [15] (fun i wx => ∃ (K : Nat) (lx : Nat → Value), K ≤ 4 ∧ i = .int .i64 K ∧ EpAt wx w.heap.size b 4 (lasts K s) lx ∧ Arr4 wx w.heap.size P (fun a => (s.lim a).map OldV.ref) pv ∧ Got wx K Z (tolds 4 s) qv ∧ Below w.heap.size w wx ∧ Z ≤ wx.heap.size) (fun i _ => 4 - (intOf i).toNat)
            case atStart => exact ⟨0, _, Nat.zero_le _, rfl, HE5.out, HA5.out, HG5.out, hb5, hz5⟩
            case round =>
              obtain ⟨J, lx, hJ, rfl, he, hA, hG, hbx, hzx⟩ := hrel
              clear HE5 HA5 HG5 hb5 hz5
              by_cases hj4 : J < 4
              · have ij4 : (J : Int) < 4 := by omega
                have hlj := HL.out J
                have eJ : ((J : Nat) : Int).toNat = J := by omega
                obtain ⟨hall, hnone⟩ := ripe_all s.now (s.lim J) (HI.out.srt J) (HI.out.le J)
                have hlJ : (lasts J s).lim J = keptOf s.now (s.lim J) := lasts_lim (Nat.lt_irrefl _) hj4 s
                have htJ : tolds 4 s J = toldOf s.now (s.lim J) := if_pos hj4
                have hown := hG.gr J (Nat.le_refl _) hj4
                rw [htJ] at hown
                obtain ⟨Aq, cq, hqv⟩ := own_form hown
                have q0 := (cell_of_blk hG.gb J).trans (rngCells_at _ hj4)
                rw [hqv] at q0 hown
                obtain ⟨T1, hT1⟩ : ∃ T1, toldOf s.now (s.lim J) = T1 := ⟨_, rfl⟩
                obtain ⟨T2, hT2⟩ : ∃ T2, toldOf ((s.now + 1 + 1 : Nat) : Int) (keptOf s.now (s.lim J)) = T2 := ⟨_, rfl⟩
                obtain ⟨Ap, cp, hpv⟩ := own_form (hA.pr J hj4)
                obtain ⟨m, hm⟩ : ∃ m, ((s.lim J).map OldV.ref).length = m := ⟨_, rfl⟩
                have hm20 : m ≤ 20 := by rw [← hm, List.length_map]; exact hlj
                rw [hT1, hT2] at hall
                have hmm : T1.length + T2.length = m := by rw [← hm, ← hall, List.length_append]
                obtain ⟨m1, hm1⟩ : ∃ m1, T1.length = m1 := ⟨_, rfl⟩
                obtain ⟨m2, hm2⟩ : ∃ m2, T2.length = m2 := ⟨_, rfl⟩
                rw [hm1, hm2] at hmm
                rw [hT1, hm1] at hown q0 hqv
                rw [hm] at hpv
                have hl0 : ((lasts (J + 1) s).lim J).length = 0 := by rw [lasts_lim0 (Nat.lt_succ_self _)]; rfl
                have HM := Lib.hid hm
                have HM1 := Lib.hid hm1
                have HM2 := Lib.hid hm2
                have HALL := Lib.hid hall
                have HPV := Lib.hid hpv
                have HQV := Lib.hid hqv
                have HA := Lib.hid hA
                have HG := Lib.hid hG
                have HE := Lib.hid he
                have HOWN := Lib.hid hown
                clear hA hG he hm hm1 hm2 hall hpv hqv hown
                have q0d : wr.drew.cell? ⟨Z, J, none⟩ = some (.slice Aq m1 cq) := q0
                have HEd : Hid (EpAt wr.drew w.heap.size b 4 (lasts J s) lx) := Lib.hid (HE.out.below0 (bl_drew (Below.refl _ _)))
                have HAd : Hid (Arr4 wr.drew w.heap.size P (fun a => (s.lim a).map OldV.ref) pv) := Lib.hid (HA.out.below (bl_drew (Below.refl _ _)))
                have HGd : Hid (Got wr.drew J Z (tolds 4 s) qv) := Lib.hid (HG.out.below (bl_drew (Below.refl _ _)))
                have HBd : Hid (Below w.heap.size w wr.drew) := Lib.hid (bl_drew hbx)
                have HZd : Hid (Z ≤ wr.drew.heap.size) := Lib.hid hzx
                go_wp2_with fail
                go_region_held3 (fun w' => w'.cell? ⟨Z, J, none⟩ = some (.slice Aq m1 cq)) (first | exact q5 | exact q4 | exact q0d) (first
                  | (go_at_call 15; refine (ripe_len HEd.out (a := J) hj4 (by show s.now + 1 + 1 ≤ 1000000; omega) (by rw [hlJ]; have := kept_len s.now (s.lim J); omega) T2 (by rw [hlJ]; exact hT2) [] (by rw [hlJ]; exact hnone) m2 HM2.out).mono ?_; rintro e w4 ⟨A4, c4, v4, rfl, own4, h4, o4, n4⟩; rw [lasts_succ] at h4; have hA4 := HAd.out.step HEd.out o4; have hG4 := HGd.out.step HEd.out o4; have hb4 := bl_only HBd.out o4 (fun k hk => HEd.out.own_lo hk); have hz4 : Z ≤ w4.heap.size := Nat.le_trans HZd.out o4.size; have q4 : w4.cell? ⟨Z, J, none⟩ = some (.slice Aq m1 cq) := (by rw [← HQV.out]; exact (cell_of_blk hG4.gb J).trans (rngCells_at _ hj4)); have hG4own := hG4.gr J (Nat.le_refl _) hj4; rw [htJ, hT1, HM1.out, HQV.out] at hG4own; have hR4 := Reads.of_own own4 (refs_one T2))
                  | (have hlater := own4; refine step_append_refs (by rfl) _ _ (by rfl) (lo := Z) (cs := T1) (n := m1) hG4own (by rfl) (m := m2) (ds := T2) hR4 (by rfl) (by omega) hz4 m (by omega) ?_; intro A5 c5 w5 own5 hgr5; rw [← HQV.out] at hgr5; have hG5 := hG4.grown hj4 hgr5; have q5 : w5.cell? ⟨Z, J, none⟩ = some (.slice Aq m1 cq) := (by rw [← HQV.out]; exact (cell_of_blk hG5.gb J).trans (rngCells_at _ hj4))))
                have hA5 := hA4.grown hG4 hj4 HZ.out hgr5
                have hE5 := h4.grown hG4 hj4 hgr5
                have hb5 := hG4.grown_below hj4 hgr5 hb4 lZ
                have hz5 : Z ≤ w5.heap.size := Nat.le_trans hz4 hgr5.size
                have zp5 : w5.cell? ⟨P, J, none⟩ = some (.slice Ap m cp) := by rw [← HPV.out]; exact (cell_of_blk hA5.pb J).trans (rngCells_at _ hj4)
                rw [HALL.out] at own5
                have refsA := RefsAt.of_own own5
                have ownP := hA5.pr J hj4
                simp only [HPV.out, HM.out] at ownP
                have refsP := RefsAt.of_own ownP
                have HA5 := Lib.hid hA5
                have HG5 := Lib.hid hG5
                have HE5 := Lib.hid hE5
                clear hA5 hE5 hG5 own5 ownP hgr5 h4 o4 n4 hA4 hG4 hb4 hz4 hG4own hR4 own4 HE HA HG HEd HAd HGd HBd HZd hbx hzx q0 q0d q4 q5 HOWN
                go_wp2_with fail
                refine (same_yes refsA refsP (by omega)).mono ?_
                rintro e w6 ⟨rfl, q6, rfl⟩
                clear refsA refsP zp5
                have HE6 : Hid (EpAt (w5.drewN q6) w.heap.size b 4 (lasts (J + 1) s) _) := Lib.hid (HE5.out.below0 (bl_drewN (Below.refl _ _) q6))
                go_wp2_with fail
                refine (limbo_any HE6.out (a := J) hj4).mono ?_
                rintro e w7 ⟨rfl, rfl⟩
                simp only [hl0]
                go_wp2_with fail
                refine (ripe_len HE6.out (a := J) hj4 (by show s.now + 1 + 1 ≤ 1000000; omega) (by rw [hl0]; omega) [] (by rw [lasts_lim0 (Nat.lt_succ_self _)]; rfl) [] (by rw [lasts_lim0 (Nat.lt_succ_self _)]; rfl) 0 rfl).mono ?_
                rintro e w8 ⟨A8, c8, v8, rfl, own8, h8, o8, n8⟩
                rw [lasts_again] at h8
                have hA8 := (HA5.out.below (bl_drewN (Below.refl _ _) q6)).step HE6.out o8
                have hG8 := (HG5.out.below (bl_drewN (Below.refl _ _) q6)).step HE6.out o8
                have hb8 := bl_only (bl_drewN hb5 q6) o8 (fun k hk => HE6.out.own_lo hk)
                have hz8 : Z ≤ w8.heap.size := Nat.le_trans hz5 o8.size
                have HA8 := Lib.hid hA8
                have HG8 := Lib.hid hG8
                have HE8 := Lib.hid h8
                clear own8 o8 n8 hA8 hG8 h8 HE5 HA5 HG5 HE6 hb5 hz5
                go_wp2_with fail
                refine ⟨⟨J + 1, _, hj4, by simp, HE8.out, HA8.out, HG8.out, hb8, hz8⟩, ?_⟩
                simp [intOf]
                omega
              · have ij4 : ¬ (J : Int) < 4 := by omega
                clear hJ
                go_wp2_with fail
                go_ret
                exact ⟨rfl, hbx⟩
end Go.Proofs.Ytpklpomajioneaa
