/- Chapter 6: Compare, few. -/
import Derived.Test.YtmiijnemacgbiaaTup
namespace Go.Proofs.Ytmiijnemacgbiaa
open Go.RowKit
set_option linter.unusedVariables false
set_option linter.unusedSimpArgs false

theorem c1_any {w : World} {a b : Option Addr} {n m c d : Nat} {zs ys : List Int} (h : IntsAt w a n zs) (k : IntsAt w b m ys) :
    Calls Try.prog 24 #[.slice a n c, .slice b m d] w fun e w' => e = .returned (.int .i64 (cmpL zs ys)) ∧ w = w' := by
  go_enter Try.func24, Try.ntmps24
  go_wp2_with fail
  refine (lcmp_any h k).mono ?_
  rintro e w' ⟨rfl, rfl⟩
  go_wp2_with fail
  go_ret
  exact ⟨rfl, rfl⟩
set_option maxHeartbeats 4000000 in
theorem cmpf_any {w : World} {A B : Option Addr} {n m c d : Nat} {rs qs : List RowV} (h : RowsAt w A n rs) (k : RowsAt w B m qs) :
    Calls Try.prog 23 #[.slice A n c, .slice B m d, .func (.func 24) #[] #[]] w fun e w' => e = .returned (.int .i64 (cmpLL (nums rs) (nums qs))) ∧ w = w' := by
  have hsm := h.small
  have hl1 : (nums rs).length = n := by rw [nums_length]; exact h.len
  have hl2 : (nums qs).length = m := by rw [nums_length]; exact k.len
  have H := Lib.hid h
  have K := Lib.hid k
  have HL1 := Lib.hid hl1
  have HL2 := Lib.hid hl2
  clear h k hl1 hl2
  obtain ⟨R, hR⟩ : ∃ R, cmpLL (nums rs) (nums qs) = R := ⟨_, rfl⟩
  rw [hR]
  have HR := Lib.hid hR
  clear hR
  go_enter Try.func23, Try.ntmps23
  go_wp2_with fail
  go_loop [13] (fun i => ∃ I : Nat, I ≤ n ∧ i = .int .i64 I ∧ lexC cmpL ((nums rs).drop I) ((nums qs).drop I) = R) (fun i => n - (intOf i).toNat)
  case atStart => exact ⟨0, Nat.zero_le _, rfl, HR.out⟩
  case round =>
    obtain ⟨I, hI, rfl, hr⟩ := hrel
    by_cases hlt : I < n
    · obtain ⟨g, off, rfl, hg, hc⟩ := H.out.cells (by omega)
      have hri : I < rs.length := by rw [H.out.len]; exact hlt
      obtain ⟨r, hr1⟩ : ∃ r, rs[I]? = some r := ⟨_, List.getElem?_eq_getElem hri⟩
      have c1 := hc I r hr1
      have ht1 := (H.out.each r (List.mem_of_getElem? hr1)).2.2.2
      have hz := nums_at hr1
      have iI : (I : Int) < n := by omega
      obtain ⟨ra, rn, rc, rz⟩ := r
      dsimp only at c1 ht1 hz
      by_cases hlt2 : I < m
      · obtain ⟨g2, off2, rfl, hg2, hc2⟩ := K.out.cells (by omega)
        have hqi : I < qs.length := by rw [K.out.len]; exact hlt2
        obtain ⟨q, hq1⟩ : ∃ q, qs[I]? = some q := ⟨_, List.getElem?_eq_getElem hqi⟩
        have c2 := hc2 I q hq1
        have ht2 := (K.out.each q (List.mem_of_getElem? hq1)).2.2.2
        have hy := nums_at hq1
        obtain ⟨qa, qn, qc, qz⟩ := q
        dsimp only at c2 ht2 hy
        have d2 : decide ((m : Int) ≤ I) = false := decide_eq_false (by omega)
        have hs := lexC_step cmpL hz hy
        rw [hr] at hs
        have HS := Lib.hid hs
        have HT1 := Lib.hid ht1
        have HT2 := Lib.hid ht2
        clear hc hc2 hs hr hz hy ht1 ht2 hr1 hq1 hri hqi
        go_wp2_with fail
        refine (c1_any HT1.out HT2.out).mono ?_
        rintro e w' ⟨rfl, rfl⟩
        by_cases h0 : cmpL rz qz = 0
        · have hs := HS.out
          rw [if_pos h0] at hs
          rw [h0]
          have HS2 := Lib.hid hs
          clear hs h0 HS
          go_wp2_with fail
          exact ⟨⟨I + 1, hlt, by simp, HS2.out.symm⟩, by simp [intOf]; omega⟩
        · have hs := HS.out
          rw [if_neg h0] at hs
          rw [← hs] at h0 ⊢
          have h0' : (R != 0) = true := by simpa using h0
          clear HS HR hs h0
          go_wp2_with fail
          go_ret
          exact ⟨rfl, rfl⟩
      · have i2 : (m : Int) ≤ I := by omega
        have hs := lexC_long cmpL (l := nums rs) (k := nums qs) (I := I) (by rw [HL1.out]; exact hlt) (by rw [HL2.out]; omega)
        rw [hr] at hs
        subst hs
        clear hc hr hz HR ht1 hr1 hri
        go_wp2_with fail
        go_ret
        exact ⟨rfl, rfl⟩
    · obtain rfl : I = n := by omega
      have iI : ¬ (I : Int) < I := by omega
      have hs := lexC_end cmpL (l := nums rs) (k := nums qs) (I := I) (by rw [HL1.out]; exact Nat.le_refl _)
      rw [hr, HL2.out] at hs
      clear hr HR
      by_cases h2 : I < m
      · rw [if_pos h2] at hs
        subst hs
        have i2 : (I : Int) < m := by omega
        go_wp2_with fail
        go_ret
        exact ⟨rfl, rfl⟩
      · rw [if_neg h2] at hs
        subst hs
        have i2 : ¬ (I : Int) < m := by omega
        go_wp2_with fail
        go_ret
        exact ⟨rfl, rfl⟩
theorem tcmp_any {w : World} {A B : Option Addr} {n m c d : Nat} {rs qs : List RowV} (h : RowsAt w A n rs) (k : RowsAt w B m qs) :
    Calls Try.prog 10 #[.slice A n c, .slice B m d] w fun e w' => e = .returned (.int .i64 (cmpLL (nums rs) (nums qs))) ∧ w = w' := by
  have HC := fun c d => Lib.hid (cmpf_any (c := c) (d := d) h k)
  generalize cmpLL (nums rs) (nums qs) = R at *
  clear h k
  go_enter Try.func10, Try.ntmps10
  go_wp2_with fail
  refine (HC _ _).out.mono ?_
  rintro e w' ⟨rfl, rfl⟩
  go_wp2_with fail
  go_ret
  exact ⟨rfl, rfl⟩
def rowCells (rs : List RowV) : List Value := rs.map fun r => .slice r.a r.n r.c
theorem rowCells_append (a b : List RowV) : rowCells (a ++ b) = rowCells a ++ rowCells b := by simp [rowCells]
theorem rowCells_one {rs : List RowV} {v : Value} (hv : v ∈ rowCells rs) : v.oneCell' = true := by
  unfold rowCells at hv
  obtain ⟨r, _, rfl⟩ := List.mem_map.1 hv
  rfl
theorem RowsAt.of_own {w : World} {lo : Nat} {A : Option Addr} {n c : Nat} {rs : List RowV} (h : w.ownsRow lo 26 1 (.slice A n c) n (rowCells rs)) (hs : n ≤ 140737488351232) (he : ∀ r ∈ rs, r.n ≤ r.c ∧ r.c ≤ maxLen ∧ (r.a = none → r.n = 0 ∧ r.c = 0) ∧ IntsAt w r.a r.n r.zs) : RowsAt w A n rs := by
  have hl : rs.length = n := by have := h.1; rw [rowCells, List.length_map] at this; omega
  refine ⟨hl, hs, fun hp => ?_, he⟩
  obtain ⟨g, rfl, _, _, hg, hc⟩ := own_some h hp
  refine ⟨g, 0, rfl, hg, fun i r hi => ?_⟩
  rw [Nat.zero_add]
  exact hc i _ (by unfold rowCells; rw [List.getElem?_map, hi]; rfl)
theorem infoRow : (Try.prog.info? 26).map (fun i => (i.zero, i.size, i.bytes)) = some (some (.slice none 0 0), 1, 24) := by kernel_rfl
theorem info_parts {t : TypeId} {z : Value} {size bytes : Nat} (h : (Try.prog.info? t).map (fun i => (i.zero, i.size, i.bytes)) = some (some z, size, bytes)) : ∃ i, Try.prog.info? t = some i ∧ i.zero = some z ∧ i.size = size ∧ i.bytes = bytes := by
  cases hi : Try.prog.info? t with
  | none => rw [hi] at h; cases h
  | some i =>
    rw [hi] at h
    simp at h
    exact ⟨i, rfl, h.1, h.2.1, h.2.2⟩
/-- A row's first four. -/
def RowV.four (r : RowV) : RowV := if 4 < r.n then ⟨r.a, 4, r.c, r.zs.take 4⟩ else r
theorem RowV.four_zs {r : RowV} (h : r.zs.length = r.n) : r.four.zs = r.zs.take 4 := by
  unfold RowV.four
  split
  · rfl
  · rw [List.take_of_length_le (by omega)]
set_option maxHeartbeats 4000000 in
theorem few_any {w : World} {A : Option Addr} {n c : Nat} {rs : List RowV} (h : RowsAt w A n rs) :
    Calls Try.prog 9 #[.slice A n c] w fun e w' => ∃ v, e = .returned v ∧ w'.ownsRow w.heap.size 26 1 v ((rs.take 12).map RowV.four).length (rowCells ((rs.take 12).map RowV.four)) ∧ Below w.heap.size w w' := by
  have hsm := h.small
  have H := Lib.hid h
  clear h
  obtain ⟨Q, hQ⟩ : ∃ Q, (rs.take 12).map RowV.four = Q := ⟨_, rfl⟩
  rw [hQ]
  have HQ := Lib.hid hQ
  clear hQ
  obtain ⟨m, hm⟩ : ∃ m, Q.length = m := ⟨_, rfl⟩
  rw [hm]
  have HM := Lib.hid hm
  clear hm
  obtain ⟨i0, hi, hz0, hz1, hz2⟩ := info_parts infoRow
  go_enter Try.func9, Try.ntmps9
  go_wp2_with fail
  go_loopw [3, 4] (fun v i wr => ∃ I : Nat, I ≤ n ∧ I ≤ 12 ∧ i = .int .i64 I ∧ wr.ownsRow w.heap.size 26 1 v I (rowCells ((rs.take I).map RowV.four)) ∧ Below w.heap.size w wr) (fun _ i _ => n - (intOf i).toNat)
  case atStart => exact ⟨0, Nat.zero_le _, by decide, rfl, ⟨rfl, .inl ⟨rfl, rfl⟩⟩, Below.refl _ _⟩
  case round =>
    obtain ⟨I, hI, hI2, rfl, hown, hb⟩ := hrel
    by_cases hlt : I < n
    · have iI : (I : Int) < n := by omega
      by_cases h12 : I < 12
      · have d12 : decide ((I : Int) < 12) = true := decide_eq_true (by omega)
        obtain ⟨g, off, rfl, hg, hc⟩ := (H.out.below hb).cells (by omega)
        have hri : I < rs.length := by rw [H.out.len]; exact hlt
        obtain ⟨r, hr1⟩ : ∃ r, rs[I]? = some r := ⟨_, List.getElem?_eq_getElem hri⟩
        have c1 := hc I r hr1
        obtain ⟨r1, r2, r3, r4⟩ := H.out.each r (List.mem_of_getElem? hr1)
        have htk : (rs.take (I + 1)).map RowV.four = (rs.take I).map RowV.four ++ [r.four] := by
          rw [List.take_add_one, hr1, List.map_append]; rfl
        have HTK := Lib.hid htk
        clear hc hr1 hri htk r4
        obtain ⟨ra, rn, rc, rz⟩ := r
        dsimp only at c1 r1 r2 r3
        obtain ⟨Ao, co, rfl⟩ := own_form hown
        have hlo : w.heap.size ≤ wr.heap.size := hb.size
        by_cases h4 : 4 < rn
        · have i4 : (4 : Int) < rn := by omega
          have e4 : RowV.four ⟨ra, rn, rc, rz⟩ = ⟨ra, 4, rc, rz.take 4⟩ := if_pos h4
          obtain ⟨ad, rfl⟩ : ∃ ad, ra = some ad := by
            cases ra with
            | none => have := (r3 rfl).1; omega
            | some ad => exact ⟨ad, rfl⟩
          have hnn := alloc_new wr (.cells #[.slice (some ad) 4 rc] 26)
          have hown2 := hown.alloc (.cells #[.slice (some ad) 4 rc] 26)
          have hb2 := hb.alloc hb.size (.cells #[.slice (some ad) 4 rc] 26)
          have HB2 := Lib.hid hb2
          have HO2 := Lib.hid hown2
          have E4 := Lib.hid e4
          have hz9 := hb2.size
          clear hown hown2 hb2 e4 r3
          go_wp2_with (at_builtin; refine wpList_append_lies _ rfl (.tmp 25) (.tmp 27) 22 rfl w.heap.size 26 i0 _ 1 24 Try.underlying22 hi hz0 hz1 hz2 rfl (by decide) (.slice Ao I co) I _ rfl HO2.out ⟨wr.heap.size, 0, none⟩ 1 1 [.slice (some ad) 4 rc] rfl rfl (World.news_of_block (cs := #[.slice (some ad) 4 rc]) (t := 26) (fr := (0, 0)) hnn) (by simp [Value.oneCell']) (by decide) (by simp only [maxLen]; omega) (by omega) hz9 _ rfl ?_; intro g8 cap8 w8 hown8 hgr8 hat8 _; have ho8 := only_grown (S := fun k => (Value.slice Ao I co).ownBlock = some k) (Only.refl _ _) hgr8 (fun k hk => .inl hk); have hb8 := bl_only HB2.out ho8 (fun k hk => own_block HO2.out hk))
          go_roundw
          case rel => exact ⟨I + 1, hlt, h12, by simp, by rw [HTK.out, rowCells_append, E4.out]; exact hown8, hb8⟩
          case measure => simp [intOf]; omega
        · have i4 : ¬ (4 : Int) < rn := by omega
          have e4 : RowV.four ⟨ra, rn, rc, rz⟩ = ⟨ra, rn, rc, rz⟩ := if_neg h4
          have hnn := alloc_new wr (.cells #[.slice ra rn rc] 26)
          have hown2 := hown.alloc (.cells #[.slice ra rn rc] 26)
          have hb2 := hb.alloc hb.size (.cells #[.slice ra rn rc] 26)
          have HB2 := Lib.hid hb2
          have HO2 := Lib.hid hown2
          have E4 := Lib.hid e4
          have hz9 := hb2.size
          clear hown hown2 hb2 e4 r3
          go_wp2_with (at_builtin; refine wpList_append_lies _ rfl (.tmp 25) (.tmp 27) 22 rfl w.heap.size 26 i0 _ 1 24 Try.underlying22 hi hz0 hz1 hz2 rfl (by decide) (.slice Ao I co) I _ rfl HO2.out ⟨wr.heap.size, 0, none⟩ 1 1 [.slice ra rn rc] rfl rfl (World.news_of_block (cs := #[.slice ra rn rc]) (t := 26) (fr := (0, 0)) hnn) (by simp [Value.oneCell']) (by decide) (by simp only [maxLen]; omega) (by omega) hz9 _ rfl ?_; intro g8 cap8 w8 hown8 hgr8 hat8 _; have ho8 := only_grown (S := fun k => (Value.slice Ao I co).ownBlock = some k) (Only.refl _ _) hgr8 (fun k hk => .inl hk); have hb8 := bl_only HB2.out ho8 (fun k hk => own_block HO2.out hk))
          go_roundw
          case rel => exact ⟨I + 1, hlt, h12, by simp, by rw [HTK.out, rowCells_append, E4.out]; exact hown8, hb8⟩
          case measure => simp [intOf]; omega
      · have d12 : decide ((I : Int) < 12) = false := decide_eq_false (by omega)
        have e12 : rs.take I = rs.take 12 := by congr 1; omega
        rw [e12] at hown
        rw [HQ.out] at hown
        have hl12 : m = I := by have := hown.1; rw [rowCells, List.length_map, HM.out] at this; omega
        have HO := Lib.hid hown
        have HL := Lib.hid hl12
        clear hown e12 hl12 HQ
        go_wp2_with fail
        go_ret
        rw [HL.out]
        exact ⟨_, rfl, HO.out, hb⟩
    · obtain rfl : I = n := by omega
      have iI : ¬ (I : Int) < I := by omega
      have e12 : rs.take I = rs.take 12 := by rw [List.take_of_length_le (by rw [H.out.len]; exact Nat.le_refl _), List.take_of_length_le (by rw [H.out.len]; omega)]
      rw [e12] at hown
      rw [HQ.out] at hown
      have hl12 : m = I := by have := hown.1; rw [rowCells, List.length_map, HM.out] at this; omega
      have HO := Lib.hid hown
      have HL := Lib.hid hl12
      clear hown e12 hl12 HQ
      go_wp2_with fail
      go_ret
      rw [HL.out]
      exact ⟨_, rfl, HO.out, hb⟩
/-- few, its rows as they can be read. -/
theorem few_at {w : World} {A : Option Addr} {n c : Nat} {rs : List RowV} (h : RowsAt w A n rs) :
    Calls Try.prog 9 #[.slice A n c] w fun e w' => ∃ g m c2 qs, e = .returned (.slice g m c2) ∧ RowsAt w' g m qs ∧ (∀ q ∈ qs, q.n ≤ 4) ∧ m ≤ 12 ∧ w'.ownsRow w.heap.size 26 1 (.slice g m c2) m (rowCells qs) ∧ Below w.heap.size w w' :=
  (few_any h).mono fun e w' ⟨v, he, hrow, hb⟩ => by
    have hlen : ((rs.take 12).map RowV.four).length ≤ 12 := by rw [List.length_map, List.length_take]; omega
    have hwf : ∀ r ∈ (rs.take 12).map RowV.four, r.n ≤ r.c ∧ r.c ≤ maxLen ∧ (r.a = none → r.n = 0 ∧ r.c = 0) ∧ IntsAt w' r.a r.n r.zs := by
      intro r hr
      obtain ⟨q, hq, rfl⟩ := List.mem_map.1 hr
      obtain ⟨h1, h2, h3, h4⟩ := h.each q (List.mem_of_mem_take hq)
      unfold RowV.four
      split
      · rename_i h5
        exact ⟨by show 4 ≤ q.c; omega, h2, fun hn => absurd (h3 hn).1 (by omega), (h4.take (m := 4) (Nat.le_of_lt h5)).below hb⟩
      · exact ⟨h1, h2, h3, h4.below hb⟩
    have h4 : ∀ q ∈ (rs.take 12).map RowV.four, q.n ≤ 4 := by
      intro r hr
      obtain ⟨q, hq, rfl⟩ := List.mem_map.1 hr
      unfold RowV.four
      split
      · exact Nat.le_refl _
      · rename_i h5
        exact Nat.not_lt.1 h5
    generalize (rs.take 12).map RowV.four = qs at *
    obtain ⟨g, c2, rfl⟩ := own_form hrow
    exact ⟨g, _, c2, qs, he, RowsAt.of_own hrow (by omega) hwf, h4, hlen, hrow, hb⟩
end Go.Proofs.Ytmiijnemacgbiaa
