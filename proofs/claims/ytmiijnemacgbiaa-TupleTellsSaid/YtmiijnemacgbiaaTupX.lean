/- Chapter 6: TupleTurned. -/
import Derived.Test.YtmiijnemacgbiaaTupV
namespace Go.Proofs.Ytmiijnemacgbiaa
open Go.RowKit
set_option linter.unusedVariables false
set_option linter.unusedSimpArgs false

theorem cmpI_eq {a b : Int} (h : cmpI a b = 0) : a = b := by
  unfold cmpI at h
  split at h
  · omega
  · split at h
    · omega
    · omega
theorem lexC_eq {α : Type} {c : α → α → Int} (hc : ∀ a b, c a b = 0 → a = b) : ∀ (l k : List α), lexC c l k = 0 → l = k := by
  intro l
  induction l with
  | nil => intro k h; cases k with
    | nil => rfl
    | cons y ys => simp [lexC] at h
  | cons x xs ih => intro k h; cases k with
    | nil => simp [lexC] at h
    | cons y ys =>
      simp only [lexC] at h
      split at h
      · rename_i e
        rw [hc x y e, ih ys h]
      · rename_i e
        exact absurd h e
theorem cmpLL_eq (a b : List (List Int)) (h : cmpLL a b = 0) : a = b := lexC_eq (lexC_eq fun a b => cmpI_eq) a b h
/-- Two rows in order of the same matches are the same, one by one. -/
theorem inOrder_same {l k : List MatV} (h : InOrder l) (h' : InOrder k) (hp : (l.map MatV.num).Perm (k.map MatV.num)) : l.map MatV.num = k.map MatV.num := by
  have ho := cmpLL_ord
  refine List.Perm.eq_of_pairwise (le := fun a b => cmpLL a b ≤ 0) (fun a b _ _ h1 h2 => cmpLL_eq a b (by have := ho.anti a b; omega)) ?_ ?_ hp
  · exact List.pairwise_map.2 h
  · exact List.pairwise_map.2 h'
theorem same_at {l k : List MatV} (h : l.map MatV.num = k.map MatV.num) {I : Nat} {x y : MatV} (hx : l[I]? = some x) (hy : k[I]? = some y) : cmpM x y = 0 := by
  have h1 : (l.map MatV.num)[I]? = some x.num := by rw [List.getElem?_map, hx]; rfl
  have h2 : (k.map MatV.num)[I]? = some y.num := by rw [List.getElem?_map, hy]; rfl
  rw [h, h2] at h1
  injection h1 with h1
  unfold cmpM
  rw [h1]
  exact cmpLL_ord.refl _
/-- A row, from its end. -/
def revTo (ms : List MatV) (k : Nat) : List MatV := ms.reverse.take k
theorem revTo_step {ms : List MatV} {n M : Nat} {m : MatV} (hn : ms.length = n) (h : ms[M]? = some m) : revTo ms (n - M) = revTo ms (n - 1 - M) ++ [m] := by
  have hM : M < ms.length := (List.getElem?_eq_some_iff.1 h).1
  unfold revTo
  rw [show n - M = (n - 1 - M) + 1 by omega, List.take_add_one, List.getElem?_reverse (by omega), show ms.length - 1 - (n - 1 - M) = M by omega, h]
  rfl
theorem flatN_length (rs : List RowV) {n : Nat} (h : rs.length = n) (h4 : ∀ q ∈ rs, q.zs.length ≤ 4) : ∀ I, (flatN rs I).length ≤ I * 4 := by
  intro I
  induction I with
  | zero => exact Nat.le_refl _
  | succ I ih =>
    by_cases hI : I < rs.length
    · have hr := List.getElem?_eq_getElem hI
      rw [flatN_step hr, List.length_append]
      have := h4 _ (List.mem_of_getElem? hr)
      omega
    · have : flatN rs (I + 1) = flatN rs I := by unfold flatN; rw [List.take_of_length_le (by omega), List.take_of_length_le (by omega)]
      rw [this]; omega
theorem MatOk.flat {w : World} {m : MatV} (h : MatOk w m) : FlatIn w m.a m.n m.rs := ⟨h.rows, h.few, h.four⟩
set_option maxRecDepth 100000 in
set_option maxHeartbeats 8000000 in
theorem turned_law (a0 : Option Addr) (n0 c0 : Nat) (x0 : List (List Int)) (w : World) (hr0 : RowAt (kSlice (kInt .i64) 8) 24 w a0 n0 x0) :
    Calls Try.prog 7 #[.slice a0 n0 c0] w fun e w' => e = .returned (.bool true) ∧ Below w.heap.size w w' := by
  obtain ⟨r0, hR0, _⟩ := hr0.rows
  obtain ⟨i0, hi, hz0, hz1, hz2⟩ := info_parts infoMat
  have HR0 := Lib.hid hR0
  clear hr0 hR0
  go_enter Try.func7, Try.ntmps7
  go_wp2_with fail
  refine (awake_any _).mono ?_
  rintro e w1 ⟨rfl, hb1⟩
  have HB1 := Lib.hid hb1
  clear hb1
  go_wp2_with fail
  refine (matches_at (HR0.out.below HB1.out)).mono ?_
  rintro e w2 ⟨A, n, c, ms, rfl, hM, hown, hb2⟩
  have hn := hM.few
  have HM := Lib.hid hM
  have HB2 := Lib.hid (bl_then HB1.out hb2)
  clear hM hown hb2
  go_wp2_with fail
  go_loopw [5, 6] (fun b i wr => ∃ K : Nat, K ≤ n ∧ (K < n ∧ i = .int .i64 ((n - 1 - K : Nat) : Int) ∨ K = n ∧ i = .int .i64 (-1)) ∧ wr.ownsRow w2.heap.size 22 1 b K (matCells (revTo ms K)) ∧ Below w2.heap.size w2 wr) (fun _ i _ => ((match i with | .int _ z => z | _ => 0) + 1).toNat)
  case atStart =>
    refine ⟨0, Nat.zero_le _, ?_, ⟨rfl, .inl ⟨rfl, rfl⟩⟩, Below.refl _ _⟩
    by_cases h : 0 < n
    · exact .inl ⟨h, by congr 1; omega⟩
    · exact .inr ⟨by omega, by congr 1; omega⟩
  case round =>
    obtain ⟨K, hK, ⟨hlt, rfl⟩ | ⟨rfl, rfl⟩, hrow, hb⟩ := hrel
    · obtain ⟨M, hMK⟩ : ∃ M, n - 1 - K = M := ⟨_, rfl⟩
      rw [hMK]
      have hMn : M < n := by omega
      have iM : (M : Int) < n := by omega
      obtain ⟨m, hm, hmm⟩ := HM.out.at_ hMn
      obtain ⟨b, off, rfl, hc⟩ := HM.out.cell (by omega)
      have c1 := hc wr hb M m hm
      have hstep := revTo_step HM.out.len hm
      rw [show n - M = K + 1 by omega, show n - 1 - M = K by omega] at hstep
      obtain ⟨ma, mn, mc, mr⟩ := m
      dsimp only at c1
      obtain ⟨Ao, co, rfl⟩ := own_form hrow
      have hrowa := hrow.alloc (.cells #[.slice ma mn mc] 22)
      have hba := bl_alloc hb (.cells #[.slice ma mn mc] 22)
      have hnn := alloc_new wr (.cells #[.slice ma mn mc] 22)
      have hz9 := hba.size
      have HRA := Lib.hid hrowa
      have HBA := Lib.hid hba
      have HST := Lib.hid hstep
      have HMK := Lib.hid hMK
      clear hrowa hba hrow hb hc hm hmm hstep hMK
      go_wp2_with (at_builtin; refine wpList_append_lies _ rfl (.tmp 22) (.tmp 27) 34 rfl w2.heap.size 22 i0 _ 1 24 Try.underlying34 hi hz0 hz1 hz2 rfl (by decide) (.slice Ao K co) K _ rfl HRA.out ⟨wr.heap.size, 0, none⟩ 1 1 [.slice ma mn mc] rfl rfl (World.news_of_block (cs := #[.slice ma mn mc]) (t := 22) (fr := (0, 0)) hnn) (by simp [Value.oneCell']) (by decide) (by simp only [maxLen]; omega) (by omega) hz9 _ rfl ?_; intro g8 cap8 w8 hown8 hgr8 hat8 _; have ho8 := only_grown (S := fun k2 => (Value.slice Ao K co).ownBlock = some k2) (Only.refl _ _) hgr8 (fun k2 hk => .inl hk); have hb8 := bl_only HBA.out ho8 (fun k2 hk => own_block HRA.out hk))
      go_roundw
      case rel =>
        refine ⟨K + 1, hlt, ?_, by rw [HST.out, matCells_append]; exact hown8, hb8⟩
        have := HMK.out
        by_cases h : K + 1 < n
        · exact .inl ⟨h, by congr 1; omega⟩
        · exact .inr ⟨by omega, by congr 1; omega⟩
      case measure => simp
    · obtain ⟨Ar, cr, rfl⟩ := own_form hrow
      have hrev : revTo ms K = ms.reverse := by unfold revTo; exact List.take_of_length_le (by rw [List.length_reverse, HM.out.len]; exact Nat.le_refl _)
      rw [hrev] at hrow
      have hR : MatsAt wr Ar K ms.reverse := .of_own hrow hn (fun m hm => (HM.out.each m (List.mem_reverse.1 hm)).below hb)
      have HR := Lib.hid hR
      have HM3 := Lib.hid (HM.out.below hb)
      have HB3 := Lib.hid (bl_then HB2.out hb)
      have HS1 := Lib.hid (sort_at (c := c) (HM.out.below hb))
      clear hrow hb hrev hR HM HB2
      go_wp2_with fail
      refine HS1.out.mono ?_
      rintro e w4 ⟨As, cs, l, rfl, hp, ho, hS, hb4⟩
      have HS := Lib.hid hS
      have HP := Lib.hid hp
      have HO := Lib.hid ho
      have HR4 := Lib.hid (HR.out.below hb4)
      have HM4 := Lib.hid (HM3.out.below hb4)
      have HB4 := Lib.hid (bl_then HB3.out hb4)
      clear hS hp ho hb4 HS1 HR HM3 HB3
      have HS1 := Lib.hid (sort_at (c := cr) HR4.out)
      go_wp2_with fail
      refine HS1.out.mono ?_
      rintro e w6 ⟨At, ct, l2, rfl, hp2, ho2, hT, hb6⟩
      have hsame : l.map MatV.num = l2.map MatV.num := inOrder_same HO.out ho2 ((HP.out.map _).trans ((List.reverse_perm ms).symm.trans hp2.symm |>.map _))
      have HSM := Lib.hid hsame
      have HA6 := Lib.hid (HS.out.below hb6)
      have HT6 := Lib.hid hT
      have HM6 := Lib.hid (HM4.out.below hb6)
      have HB6 := Lib.hid (bl_then HB4.out hb6)
      clear hp2 ho2 hT hb6 hsame HS1 HS HP HO HR4 HM4 HB4
      have k12 : (K : Int) ≤ 12 := by omega
      go_wp2_with fail
      go_loopw [9] (fun i wr => ∃ I : Nat, I ≤ K ∧ i = .int .i64 I ∧ Below w6.heap.size w6 wr) (fun i _ => K - (intOf i).toNat)
      case atStart => exact ⟨0, Nat.zero_le _, rfl, Below.refl _ _⟩
      case round =>
        obtain ⟨I, hI, rfl, hbr⟩ := hrel
        by_cases hlt : I < K
        · have iI : (I : Int) < K := by omega
          obtain ⟨ba, oa, rfl, hca⟩ := HA6.out.cell (by omega)
          obtain ⟨bt, ot, rfl, hct⟩ := HT6.out.cell (by omega)
          obtain ⟨bm, om, rfl, hcm⟩ := HM6.out.cell (by omega)
          obtain ⟨x, hx, hxm⟩ := HA6.out.at_ hlt
          obtain ⟨y, hy, hym⟩ := HT6.out.at_ hlt
          obtain ⟨z, hz, hzm⟩ := HM6.out.at_ hlt
          have hca := fun W hW => hca W hW I x hx
          have hct := fun W hW => hct W hW I y hy
          have hcm := fun W hW => hcm W hW I z hz
          have CMP : Hid (∀ W, Below w6.heap.size w6 W → Calls Try.prog 10 #[.slice x.a x.n x.c, .slice y.a y.n y.c] W fun e w' => e = .returned (.int .i64 0) ∧ w' = W) := Lib.hid fun W hW => by
            have := cmp_hid (HA6.out.each x hxm) (HT6.out.each y hym) W hW
            rwa [same_at HSM.out hx hy] at this
          have hzok := HM6.out.each z hzm
          have hzl : z.rs.length = z.n := hzok.rows.len
          have hz4 : ∀ q ∈ z.rs, q.zs.length ≤ 4 := fun q hq => by
            have h1 := hzok.four q hq
            have h2 := (hzok.rows.each q hq).2.2.2.len
            omega
          have hzn := hzok.few
          have FL : Hid (∀ W, Below w6.heap.size w6 W → ∃ L, (flatN z.rs z.n).length = L ∧ Calls Try.prog 17 #[.slice z.a z.n z.c] W fun e w' => ∃ A c, e = .returned (.slice A L c) ∧ Below W.heap.size W w') := Lib.hid fun W hW => ⟨_, rfl, (flat_at (hzok.flat.below hW)).mono fun e w' ⟨A, c, he, _, hb⟩ => ⟨A, c, he, hb⟩⟩
          have FL4 := Lib.hid (flatN_length z.rs hzl hz4)
          have ZAT : Hid (∀ W, Below w6.heap.size w6 W → ∀ J, J < z.n → ∃ g off r, z.a = some ⟨g, off, none⟩ ∧ z.rs[J]? = some r ∧ W.cell? ⟨g, off + J, none⟩ = some (.slice r.a r.n r.c) ∧ r.zs.length = r.n) := Lib.hid fun W hW J hJ => by
            obtain ⟨g, off, r, h1, h2, h3, _, _, h4, _⟩ := (hzok.flat.below hW).at_ hJ
            exact ⟨g, off, r, h1, h2, h3, h4⟩
          have HCA := Lib.hid hca
          have HCT := Lib.hid hct
          have HCM := Lib.hid hcm
          obtain ⟨za, zn, zc, zr⟩ := z
          dsimp only at hzl hz4 hzn
          clear hca hct hcm hx hy hz hxm hym hzm hzok hzl hz4
          have hst : ∃ J L : Nat, J ≤ zn ∧ Value.int .i64 0 = .int .i64 (J : Int) ∧ Value.int .i64 0 = .int .i64 (L : Int) ∧ (flatN zr J).length = L ∧ Below w6.heap.size w6 wr := ⟨0, 0, Nat.zero_le _, rfl, rfl, rfl, hbr⟩
          have HST := Lib.hid hst
          clear hst hbr
          go_wp2_with fail
          go_loopw [10, 11] (fun s j W => ∃ J L : Nat, J ≤ zn ∧ j = .int .i64 J ∧ s = .int .i64 L ∧ (flatN zr J).length = L ∧ Below w6.heap.size w6 W) (fun _ j _ => zn - (intOf j).toNat)
          case atStart => exact HST.out
          case round =>
            obtain ⟨J, L, hJ, rfl, rfl, hL, hb8⟩ := hrel
            have c1 := HCM.out wr hb8
            by_cases hj : J < zn
            · have iJ : (J : Int) < zn := by omega
              obtain ⟨g, off, r, hza, hr, hcr, hrz⟩ := ZAT.out wr hb8 J hj
              subst hza
              have hs := flatN_step hr
              have h4a := FL4.out J
              have h4b := FL4.out (J + 1)
              rw [hs, List.length_append, hrz] at h4b
              rw [hL] at h4a h4b
              have hs2 : (flatN zr (J + 1)).length = L + r.n := by rw [hs, List.length_append, hL, hrz]
              have HS2 := Lib.hid hs2
              have HB8 := Lib.hid hb8
              obtain ⟨ra, rn, rc, rz⟩ := r
              dsimp only at hcr h4b
              clear hs hs2 hr hrz hL hb8
              go_wp2_with fail
              go_roundw
              case rel => exact ⟨J + 1, L + rn, hj, by simp, by simp, HS2.out, HB8.out⟩
              case measure => simp [intOf]; omega
            · obtain rfl : J = zn := by omega
              have iJ : ¬ (J : Int) < J := by omega
              have a1 := HCA.out wr hb8
              have a2 := HCT.out wr hb8
              have FLL : Hid (∀ W, Below w6.heap.size w6 W → Calls Try.prog 17 #[.slice za J zc] W fun e w' => ∃ A c, e = .returned (.slice A L c) ∧ Below W.heap.size W w') := Lib.hid fun W hW => by
                obtain ⟨L', h1, h2⟩ := FL.out W hW
                rw [hL] at h1
                subst h1
                exact h2
              have e1 : ((L : Int) != L) = false := by simp
              have HL := Lib.hid hL
              clear hL
              go_wp2_with fail
              go_region_held3 (fun w' => w'.cell? ⟨ba, oa + I, none⟩ = some (.slice x.a x.n x.c) ∧ w'.cell? ⟨bt, ot + I, none⟩ = some (.slice y.a y.n y.c) ∧ w'.cell? ⟨bm, om + I, none⟩ = some (.slice za J zc)) (first | exact ⟨d1, d2, d3⟩ | exact ⟨a1, a2, c1⟩) (first
                | (go_at_call 10; refine (CMP.out _ (bl_drew hb8)).mono ?_; rintro e w8 ⟨rfl, rfl⟩)
                | (go_at_call 17; refine (FLL.out _ (bl_drew hb8)).mono ?_; rintro e w9 ⟨Af, cf, rfl, hb9⟩; have hb10 := bl_then (bl_drew hb8) hb9; have d1 := HCA.out _ hb10; have d2 := HCT.out _ hb10; have d3 := HCM.out _ hb10))
              go_wp2_with fail
              exact ⟨⟨I + 1, hlt, by simp, hb10⟩, by simp [intOf]; omega⟩
        · obtain rfl : I = K := by omega
          have iI : ¬ (I : Int) < I := by omega
          go_wp2_with fail
          go_ret
          exact ⟨rfl, bl_then HB6.out hbr⟩
end Go.Proofs.Ytmiijnemacgbiaa
