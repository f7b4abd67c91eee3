/- Chapter 6: TupleOrder. -/
import Derived.Test.YtmiijnemacgbiaaTupW
namespace Go.Proofs.Ytmiijnemacgbiaa
open Go.RowKit
set_option linter.unusedVariables false
set_option linter.unusedSimpArgs false

set_option maxRecDepth 100000 in
set_option maxHeartbeats 8000000 in
theorem order_law (a0 : Option Addr) (n0 c0 : Nat) (x0 : List (List Int)) (a1 : Option Addr) (n1 c1 : Nat) (x1 : List (List Int)) (a2 : Option Addr) (n2 c2 : Nat) (x2 : List (List Int)) (w : World)
    (hr0 : RowAt (kSlice (kInt .i64) 8) 24 w a0 n0 x0) (hr1 : RowAt (kSlice (kInt .i64) 8) 24 w a1 n1 x1) (hr2 : RowAt (kSlice (kInt .i64) 8) 24 w a2 n2 x2) :
    Calls Try.prog 3 #[.slice a0 n0 c0, .slice a1 n1 c1, .slice a2 n2 c2] w fun e w' => e = .returned (.bool true) ∧ Below w.heap.size w w' := by
  obtain ⟨r0, hR0, _⟩ := hr0.rows
  obtain ⟨r1, hR1, _⟩ := hr1.rows
  obtain ⟨r2, hR2, _⟩ := hr2.rows
  have HR0 := Lib.hid hR0
  have HR1 := Lib.hid hR1
  have HR2 := Lib.hid hR2
  clear hr0 hr1 hr2 hR0 hR1 hR2
  obtain ⟨i0, hi, hz0, hz1, hz2⟩ := info_parts infoRow
  go_enter Try.func3, Try.ntmps3
  go_wp2_with fail
  refine (awake_any _).mono ?_
  rintro e w1 ⟨rfl, hb1⟩
  go_wp2_with fail
  refine (few_at (HR0.out.below hb1)).mono ?_
  rintro e w2 ⟨A, m, c, qs, rfl, hX, _, hm, hown, hb2⟩
  have hb := bl_then hb1 hb2
  have HX := Lib.hid hX
  have HOX := Lib.hid hown
  clear hX hb1 hb2 hown
  go_wp2_with fail
  refine (few_at (HR1.out.below hb)).mono ?_
  rintro e w3 ⟨B, k, d, ps, rfl, hY, _, hk, _, hb3⟩
  have HX2 := Lib.hid (HX.out.below hb3)
  have HOX2 := Lib.hid (ownsRow_kept HOX.out (Only.of_below (S := fun _ => False) hb3) (fun _ h => h.elim))
  have hb := bl_then hb hb3
  have HY := Lib.hid hY
  clear hY hb3
  go_wp2_with fail
  refine (few_at (HR2.out.below hb)).mono ?_
  rintro e w4 ⟨D, j, f, ts, rfl, hZ, _, hj, _, hb4⟩
  have HX3 := Lib.hid (HX2.out.below hb4)
  have HY3 := Lib.hid (HY.out.below hb4)
  have HOX3 := Lib.hid (ownsRow_kept HOX2.out (Only.of_below (S := fun _ => False) hb4) (fun _ h => h.elim))
  have hb := bl_then hb hb4
  have HZ3 := Lib.hid hZ
  clear hZ hb4 HX HX2 HY HOX HOX2
  go_wp2_with fail
  refine (tcmp_any HX3.out HY3.out).mono ?_
  rintro e w5 ⟨rfl, rfl⟩
  go_wp2_with fail
  refine (tcmp_any HY3.out HZ3.out).mono ?_
  rintro e w5 ⟨rfl, rfl⟩
  go_wp2_with fail
  refine (tcmp_any HX3.out HZ3.out).mono ?_
  rintro e w5 ⟨rfl, rfl⟩
  have ho := cmpLL_ord
  have f1 := ho.rng (nums qs) (nums ps)
  have f2 := ho.rng (nums ps) (nums ts)
  have f3 := ho.rng (nums qs) (nums ts)
  have f4 := ho.le (nums qs) (nums ps) (nums ts)
  have f5 := ho.le (nums ts) (nums ps) (nums qs)
  have f6 := ho.anti (nums qs) (nums ps)
  have f7 := ho.anti (nums ps) (nums ts)
  have f8 := ho.anti (nums qs) (nums ts)
  have f9 := ho.refl (nums qs)
  rw [f6, f7, f8] at f5
  have hE0 := alloc_new w4 (.cells #[] 26)
  have hE : (w4.alloc (.cells #[] 26)).ownsRow w4.heap.size 26 1 (.slice (some ⟨w4.heap.size, 0, none⟩) 0 0) 0 [] := ⟨rfl, .inr ⟨_, 0, #[], rfl, Nat.le_refl _, hE0, Nat.le_refl _, by decide, rfl, rfl⟩⟩
  have hRd := Reads.of_own (HOX3.out.alloc (.cells #[] 26)) (fun u hu => rowCells_one hu)
  have hbE := bl_alloc (Below.refl _ w4) (.cells #[] 26)
  have hEs := hbE.size
  have HE := Lib.hid hE
  have HRD := Lib.hid hRd
  have HBE := Lib.hid hbE
  have step1 : ∀ (v5 : Value) (w5 : World), w5.ownsRow w4.heap.size 26 1 v5 (0 + m) ([] ++ rowCells qs) → (w4.alloc (.cells #[] 26)).grownBy w5 ((Value.slice (some ⟨w4.heap.size, 0, none⟩) 0 0).ownBlock) → w5.ownsRow w4.heap.size 26 1 v5 m (rowCells qs) ∧ Below w4.heap.size w4 w5 := by
    intro v5 w5 h5 hg5
    rw [Nat.zero_add, List.nil_append] at h5
    have ho5 := only_grown (S := fun k => k = w4.heap.size) (Only.refl _ _) hg5 (fun k hk => .inl (by injection hk with hk; exact hk.symm))
    exact ⟨h5, bl_only HBE.out ho5 (by rintro k rfl; exact Nat.le_refl _)⟩
  have step2 : ∀ (v5 : Value) (w5 w8 : World) (g8 cap8 : Nat), w5.ownsRow w4.heap.size 26 1 v5 m (rowCells qs) → Below w4.heap.size w4 w5 → w8.ownsRow w4.heap.size 26 1 (.slice (some ⟨g8, 0, none⟩) (m + 1) cap8) (m + 1) (rowCells qs ++ [.slice (some ⟨w5.heap.size, 0, none⟩) 1 1]) →
      ((w5.alloc (.cells #[.int .i64 1] 3)).alloc (.cells #[.slice (some ⟨w5.heap.size, 0, none⟩) 1 1] 26)).grownBy w8 v5.ownBlock → RowsAt w8 (some ⟨g8, 0, none⟩) (m + 1) (qs ++ [litRow w5.heap.size [1]]) ∧ Below w4.heap.size w4 w8 := by
    intro v5 w5 w8 g8 cap8 h5 hb5 h8 hg8
    have h7 := (h5.alloc (.cells #[.int .i64 1] 3)).alloc (.cells #[.slice (some ⟨w5.heap.size, 0, none⟩) 1 1] 26)
    have hb7 := bl_alloc (bl_alloc hb5 (.cells #[.int .i64 1] 3)) (.cells #[.slice (some ⟨w5.heap.size, 0, none⟩) 1 1] 26)
    have hi7 := alloc_old (alloc_new w5 (.cells #[.int .i64 1] 3)) (.cells #[.slice (some ⟨w5.heap.size, 0, none⟩) 1 1] 26)
    have ho8 := only_grown (S := fun k => v5.ownBlock = some k) (Only.refl _ _) hg8 (fun k hk => .inl hk)
    have hb8 := bl_only hb7 ho8 (fun k hk => own_block h5 hk)
    have hi8 := ho8.block hi7 (fun hk => absurd (own_type h7 hk hi7) (by decide))
    refine ⟨RowsAt.of_own (by rw [rowCells_append]; exact h8) (by omega) (fun r hr => ?_), hb8⟩
    rcases List.mem_append.1 hr with hr | hr
    · obtain ⟨g1, g2, g3, g4⟩ := HX3.out.each r hr
      exact ⟨g1, g2, g3, g4.below hb8⟩
    · obtain rfl := List.mem_singleton.1 hr
      exact lit_each (p := [1]) hi8 (by decide) (by decide) (by decide)
  have S1 := Lib.hid step1
  have S2 := Lib.hid step2
  have hmore : cmpLL (nums qs) (nums (qs ++ [litRow w4.heap.size [1]])) = -1 := by
    have := lexC_more (lexC_ord cmpI_ord) (nums qs) [1]
    unfold nums at *
    rw [List.map_append]
    exact this
  have hmore2 : ∀ z, nums (qs ++ [litRow z [1]]) = nums (qs ++ [litRow w4.heap.size [1]]) := fun z => by unfold nums; rw [List.map_append, List.map_append]; rfl
  have HM := Lib.hid hmore
  have HM2 := Lib.hid hmore2
  have C1 : Hid (∀ W, Below w4.heap.size w4 W → Calls Try.prog 10 #[.slice B k d, .slice A m c] W fun e w' => e = .returned (.int .i64 (-cmpLL (nums qs) (nums ps))) ∧ W = w') := Lib.hid (fun W hW => by rw [← f6]; exact tcmp_any (HY3.out.below hW) (HX3.out.below hW))
  have C2 : Hid (∀ W, Below w4.heap.size w4 W → Calls Try.prog 10 #[.slice A m c, .slice A m c] W fun e w' => e = .returned (.int .i64 0) ∧ W = w') := Lib.hid (fun W hW => by have := tcmp_any (c := c) (d := c) (HX3.out.below hW) (HX3.out.below hW); rw [f9] at this; exact this)
  have C3 : Hid (∀ W g8 cap8 z, Below w4.heap.size w4 W → RowsAt W (some ⟨g8, 0, none⟩) (m + 1) (qs ++ [litRow z [1]]) → Calls Try.prog 10 #[.slice A m c, .slice (some ⟨g8, 0, none⟩) (m + 1) cap8] W fun e w' => e = .returned (.int .i64 (-1)) ∧ W = w') := Lib.hid (fun W g8 cap8 z hW hR => by have := tcmp_any (c := c) (d := cap8) (HX3.out.below hW) hR; rw [HM2.out, HM.out] at this; exact this)
  generalize cmpLL (nums qs) (nums ps) = X at *
  generalize cmpLL (nums ps) (nums ts) = Y at *
  generalize cmpLL (nums qs) (nums ts) = Z at *
  clear ho f6 f7 f8 f9 hmore hmore2 HM HM2 step1 step2 hE hRd hbE hE0 HX3 HY3 HZ3
  have key : (X ≤ 0 → Y ≤ 0 → Z ≤ 0) ∧ (0 ≤ X → 0 ≤ Y → 0 ≤ Z) := ⟨f4, fun h1 h2 => by have := f5 (by omega) (by omega); omega⟩
  clear f4 f5
  have KEY := Lib.hid key
  clear key
  rcases f1 with rfl | rfl | rfl <;> rcases f2 with rfl | rfl | rfl <;> rcases f3 with rfl | rfl | rfl
  all_goals first
    | (exfalso; have := KEY.out; omega)
    | (clear KEY
       go_wp2_with (at_builtin; first
         | (refine wpList_append_reads _ rfl (.tmp 31) (.tmp 32) 22 rfl w4.heap.size 26 i0 _ 1 24 Try.underlying22 hi hz0 hz1 hz2 rfl (by decide) _ 0 [] rfl HE.out _ m _ rfl HRD.out (by simp only [maxLen]; omega) (by omega) hEs ?_; intro v5 w5 hown5 hgr5; obtain ⟨hown5, hb5⟩ := S1.out v5 w5 hown5 hgr5; have hs5 := hb5.size; have hown7 := (hown5.alloc (.cells #[.int .i64 1] 3)).alloc (.cells #[.slice (some ⟨w5.heap.size, 0, none⟩) 1 1] 26); have hn7 := World.news_of_block (cs := #[.slice (some ⟨w5.heap.size, 0, none⟩) 1 1]) (t := 26) (fr := (0, 0)) (alloc_new (w5.alloc (.cells #[.int .i64 1] 3)) (.cells #[.slice (some ⟨w5.heap.size, 0, none⟩) 1 1] 26)); rw [World.size_alloc] at hn7)
         | (refine wpList_append_lies _ rfl (.tmp 33) (.tmp 35) 22 rfl w4.heap.size 26 i0 _ 1 24 Try.underlying22 hi hz0 hz1 hz2 rfl (by decide) v5 m (rowCells qs) rfl hown7 ⟨w5.heap.size + 1, 0, none⟩ 1 1 [.slice (some ⟨w5.heap.size, 0, none⟩) 1 1] rfl rfl hn7 (by simp [Value.oneCell']) (by decide) (by simp only [maxLen]; omega) (by omega) (by simp; omega) _ rfl ?_; intro g8 cap8 w8 hown8 hgr8 _ _; obtain ⟨hR8, hb8⟩ := S2.out v5 w5 w8 g8 cap8 hown5 hb5 hown8 hgr8))
       refine (C1.out _ hb8).mono ?_
       rintro e w9 ⟨rfl, rfl⟩
       go_wp2_with fail
       refine (C2.out _ hb8).mono ?_
       rintro e w9 ⟨rfl, rfl⟩
       go_wp2_with fail
       refine (C3.out _ _ _ _ hb8 hR8).mono ?_
       rintro e w9 ⟨rfl, rfl⟩
       go_wp2_with fail
       go_ret
       exact ⟨rfl, bl_then hb hb8⟩)
end Go.Proofs.Ytmiijnemacgbiaa
