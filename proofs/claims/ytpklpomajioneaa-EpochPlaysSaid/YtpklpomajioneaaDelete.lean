/- Chapter 12: slices.DeleteFunc with Ripe's question, and Ripe. -/
import Derived.Test.YtpklpomajioneaaRipe
namespace Go.Proofs.Ytpklpomajioneaa
open Go.RowKit
set_option linter.unusedVariables false
set_option linter.unusedSimpArgs false

theorem kept_succ (now : Int) {L : List OldV} {J : Nat} {o : OldV} (h : L[J]? = some o) : keptOf now (L.take (J + 1)) = keptOf now (L.take J) ++ (if ripeB now o = true then [] else [o]) := by
  obtain ⟨hlt, rfl⟩ := List.getElem?_eq_some_iff.1 h
  unfold keptOf
  rw [List.take_succ_eq_append_getElem hlt, List.filter_append]
  cases hr : ripeB now L[J] <;> simp [hr]
theorem told_succ (now : Int) {L : List OldV} {J : Nat} {o : OldV} (h : L[J]? = some o) : toldOf now (L.take (J + 1)) = if ripeB now o = true then toldOf now (L.take J) ++ [o.ref] else toldOf now (L.take J) := by
  obtain ⟨hlt, rfl⟩ := List.getElem?_eq_some_iff.1 h
  unfold toldOf
  rw [List.take_succ_eq_append_getElem hlt, List.filter_append, List.map_append]
  cases hr : ripeB now L[J] <;> simp [hr]
theorem told_length (now : Int) (L : List OldV) : (toldOf now L).length ≤ L.length := by
  unfold toldOf
  rw [List.length_map]
  exact List.length_filter_le _ _
set_option maxHeartbeats 4000000 in
theorem delete_any {w wr : World} {lo b n X O a : Nat} {s : EpS} {lv : Nat → Value} {L : List OldV} (hC : RC w lo b n X O a s lv) (hj : RJ w wr lo b X O (lv a) L []) {A : Option Addr} {m c : Nat} (hv : lv a = .slice A m c) (hm : L.length = m) (hm2 : m ≤ 500) :
    Calls Try.prog 30 #[.slice A m c, .func (.func 31) #[] #[.pointer (some ⟨X, 0, none⟩), .pointer (some ⟨O, 0, none⟩)]] wr fun e w' =>
      e = .returned (.slice A (keptOf s.now L).length c) ∧ RJ w w' lo b X O (.slice A (keptOf s.now L).length c) (keptOf s.now L) (toldOf s.now L) := by
  have hcall := index_any hC hj (by simp) hv hm (by omega)
  have HM := Lib.hid hm
  have HCALL := Lib.hid hcall
  clear hj hm hcall
  go_enter Try.func30, Try.ntmps30
  go_wp2_with fail
  refine HCALL.out.mono ?_
  clear HCALL
  rintro e w' (⟨hall, rfl, hj⟩ | ⟨k, o, hk, ho, hall, hr, rfl, hj⟩)
  · go_wp2_with fail
    go_ret
    have h1 : keptOf s.now L = L := List.filter_eq_self.2 (fun o ho => by rw [hall o ho]; rfl)
    have h2 : toldOf s.now L = [] := by
      unfold toldOf
      rw [List.filter_eq_nil_iff.2 (fun o ho => by rw [hall o ho]; decide)]
      rfl
    rw [h1, h2, HM.out]
    exact ⟨rfl, by rw [← hv]; exact hj⟩
  · obtain ⟨g, rfl⟩ : ∃ g, A = some ⟨g, 0, none⟩ := by
      have hr := hj.row
      rw [hv, HM.out] at hr
      obtain ⟨g, hg, _⟩ := own_some hr (by omega)
      exact ⟨g, hg⟩
    have hg : g < w.heap.size := own_lt (hC.ep.row a hC.ha) (by rw [hv]; rfl)
    have hX := hC.hX
    have hO := hC.hO
    rw [hv] at hj
    have hk1 := kept_succ s.now ho
    rw [hr, if_pos rfl, List.append_nil] at hk1
    have hk2 : keptOf s.now (L.take k) = L.take k := List.filter_eq_self.2 (fun o ho => by rw [hall o ho]; rfl)
    have ht1 := told_succ s.now ho
    rw [hr, if_pos rfl] at ht1
    have ht2 : toldOf s.now (L.take k) = [] := by
      unfold toldOf
      rw [List.filter_eq_nil_iff.2 (fun o ho => by rw [hall o ho]; decide)]
      rfl
    have hkl : (L.take k).length = k := by rw [List.length_take]; have := HM.out; omega
    have HK1 := Lib.hid (hk1.trans hk2)
    have HT1 := Lib.hid (show toldOf s.now (L.take (k + 1)) = [] ++ [o.ref] by rw [ht1, ht2])
    have HKL := Lib.hid hkl
    have HJ0 := Lib.hid hj
    clear hk1 hk2 ht1 ht2 hkl hall hr ho hj
    go_wp2_with fail
    go_loopw [5, 6, 7] (fun i j _ wx => ∃ (I J : Nat) (R : List OldV), I < J ∧ J ≤ m ∧ i = .int .i64 I ∧ j = .int .i64 J ∧ RJ w wx lo b X O (.slice (some ⟨g, 0, none⟩) m c) R (toldOf s.now (L.take J)) ∧ Hid (R.length = m ∧ (keptOf s.now (L.take J)).length = I ∧ R.take I = keptOf s.now (L.take J) ∧ R.drop J = L.drop J)) (fun _ j _ _ => m - (intOf j).toNat)
    case atStart => exact ⟨k, k + 1, L, by omega, by omega, rfl, rfl, by rw [HT1.out]; exact HJ0.out, Lib.hid ⟨HM.out, by rw [HK1.out]; exact HKL.out, HK1.out.symm, rfl⟩⟩
    case round =>
      obtain ⟨I, J, R, hIJ, hJm, rfl, rfl, hj, HR⟩ := hrel
      by_cases h1 : J < m
      · obtain ⟨o, ho⟩ : ∃ o, L[J]? = some o := ⟨_, List.getElem?_eq_getElem (by rw [HM.out]; exact h1)⟩
        have hRJ : R[J]? = some o := by
          have := HR.out.2.2.2
          have h2 : (R.drop J)[0]? = (L.drop J)[0]? := by rw [this]
          rw [List.getElem?_drop, List.getElem?_drop, Nat.add_zero, ho] at h2
          exact h2
        obtain ⟨y0, y1, y2⟩ := hj.load (by rw [HR.out.1]; exact h1) hRJ
        have hJ1 := hj.below (bl_alloc (Below.refl _ wr) (.cells #[.int .i64 o.slot, .int .i64 o.gen, .int .i64 o.ep] 64))
        have hp := alloc_new wr (.cells #[.int .i64 o.slot, .int .i64 o.gen, .int .i64 o.ep] 64)
        have hcall := ripe1_any hC.ep hC.ha (by rw [hv]; exact hJ1) hX hO (by have := told_length s.now (L.take J); rw [List.length_take] at this; omega) hC.now o
        rw [hv] at hcall
        have HCALL := Lib.hid hcall
        have HP := Lib.hid hp
        have HO := Lib.hid ho
        clear hcall hp ho hRJ hj hJ1
        cases hr : ripeB s.now o
        · have hR2 := Lib.hid hr
          clear hr
          go_wp2_with fail
          refine HCALL.out.mono ?_
          clear HCALL
          rintro e w2 ⟨rfl, hj2, hkt⟩
          rw [hR2.out, if_neg (by decide)] at hj2
          simp only [hR2.out]
          have hp2 := hkt _ _ _ _ HP.out (by decide) (by decide)
          have v0 : w2.cell? ⟨wr.heap.size, 0, none⟩ = some (.int .i64 o.slot) := cell_of_blk hp2 0
          have v1 : w2.cell? ⟨wr.heap.size, 1, none⟩ = some (.int .i64 o.gen) := cell_of_blk hp2 1
          have v2 : w2.cell? ⟨wr.heap.size, 2, none⟩ = some (.int .i64 o.ep) := cell_of_blk hp2 2
          have hIl : I < R.length := by rw [HR.out.1]; omega
          obtain ⟨o', ho'⟩ : ∃ o', R[I]? = some o' := ⟨_, List.getElem?_eq_getElem hIl⟩
          obtain ⟨z0, z1, z2⟩ := hj2.load hIl ho'
          have hrow := hj2.row
          rw [HR.out.1] at hrow
          have f0 := own_free hrow (I * 3)
          have f1 := own_free hrow (I * 3 + 1)
          have f2 := own_free hrow (I * 3 + 2)
          have HJ2 := Lib.hid hj2
          clear hrow hj2 ho' hIl hp2 hkt y0 y1 y2
          go_wp2_with fail
          go_roundw
          case rel =>
            refine ⟨I + 1, J + 1, R.set I o, by omega, by omega, by simp, by simp, ?_, Lib.hid ⟨by rw [List.length_set]; exact HR.out.1, ?_, ?_, ?_⟩⟩
            · rw [told_succ s.now HO.out, hR2.out, if_neg (by decide)]
              exact HJ2.out.set HR.out.1 hX hO hg (by omega) o
            · rw [kept_succ s.now HO.out, hR2.out, if_neg (by decide), List.length_append, HR.out.2.1, List.length_singleton]
            · rw [kept_succ s.now HO.out, hR2.out, if_neg (by decide), ← HR.out.2.2.1]
              have hIl : I < (R.set I o).length := by rw [List.length_set, HR.out.1]; omega
              have ht : (R.set I o).take I = R.take I := by
                rw [List.take_set]
                exact List.set_eq_of_length_le (by rw [List.length_take]; omega)
              rw [List.take_succ_eq_append_getElem hIl, ht, List.getElem_set_self]
            · have := HR.out.2.2.2
              rw [List.drop_set, if_pos (by omega), ← List.drop_drop, ← List.drop_drop, this]
          case measure => simp [intOf]; omega
        · have hR2 := Lib.hid hr
          clear hr
          go_wp2_with fail
          refine HCALL.out.mono ?_
          clear HCALL
          rintro e w2 ⟨rfl, hj2, hkt⟩
          rw [hR2.out, if_pos rfl] at hj2
          simp only [hR2.out]
          have HJ2 := Lib.hid hj2
          clear hj2 hkt
          go_wp2_with fail
          go_roundw
          case rel =>
            refine ⟨I, J + 1, R, by omega, by omega, rfl, by simp, ?_, Lib.hid ⟨HR.out.1, ?_, ?_, ?_⟩⟩
            · rw [told_succ s.now HO.out, hR2.out, if_pos rfl]
              exact HJ2.out
            · rw [kept_succ s.now HO.out, hR2.out, if_pos rfl, List.append_nil]
              exact HR.out.2.1
            · rw [kept_succ s.now HO.out, hR2.out, if_pos rfl, List.append_nil]
              exact HR.out.2.2.1
            · have := HR.out.2.2.2
              rw [← List.drop_drop, ← List.drop_drop, this]
          case measure => simp [intOf]; omega
      · obtain rfl : J = m := by omega
        have hrow := hj.row
        rw [HR.out.1] at hrow
        obtain ⟨g', hgg, _, hJc, _, hcells⟩ := own_some hrow (by omega)
        injection hgg with hgg
        injection hgg with hgg _ _
        subst hgg
        have hcl := fun ty => run_clear_olds wr ty g (I * 3) (J - I) (c - I) (by omega) (fun j hj => by
          have hlt : I * 3 + j < (oldCells R).length := by rw [oldCells_length, HR.out.1]; omega
          rw [hcells (I * 3 + j) _ (List.getElem?_eq_getElem hlt)]
          rfl) (fun j hj => own_free hrow _)
        have b1 : (I : Int) ≤ J := by omega
        have b2 : (I : Int) ≤ c := by omega
        have b3 : ¬ c - I = 0 := by omega
        have b4 : ¬ J - I = 0 := by omega
        have hfin := hj.cleared HR.out.1 hX hO hg (I := I) (by omega) (List.replicate ((J - I) * 3) (.int .i64 0)) HR.out.2.2.1
        have hLJ : L.take J = L := List.take_of_length_le (by rw [HM.out]; exact Nat.le_refl _)
        have hI2 := HR.out.2.1
        rw [hLJ] at hfin hI2
        have HF := Lib.hid hfin
        have HI2 := Lib.hid hI2
        clear hrow hcells hj hfin hLJ hI2 h1
        go_wp2_with fail
        go_ret
        rw [HI2.out]
        exact ⟨rfl, HF.out⟩
end Go.Proofs.Ytpklpomajioneaa
