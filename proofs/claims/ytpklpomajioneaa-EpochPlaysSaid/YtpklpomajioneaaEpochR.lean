/- Chapter 12: New, Retire, Advance. -/
import Derived.Test.YtpklpomajioneaaEpochW
import Derived.Shelf.SlicesE.IndexFunc
namespace Go.Proofs.Ytpklpomajioneaa
open Go.RowKit
set_option linter.unusedVariables false
set_option linter.unusedSimpArgs false

theorem infoOld : (Try.prog.info? 64).map (fun i => (i.zero, i.size, i.bytes)) = some (some (.agg #[.int .i64 0, .int .i64 0, .int .i64 0]), 3, 24) := by kernel_rfl
theorem new_bad (m : Int) (w : World) (hm : ¬ (1 ≤ m ∧ m ≤ 16)) : Calls Try.prog 11 #[.int .i64 m] w fun e w' => e = .returned (.pointer none) ∧ w = w' := by
  by_cases h1 : m < 1
  · go_enter Try.func11, Try.ntmps11
    go_wp2_with fail
    go_ret
    exact ⟨rfl, rfl⟩
  · have h2 : 16 < m := by omega
    go_enter Try.func11, Try.ntmps11
    go_wp2_with fail
    go_ret
    exact ⟨rfl, rfl⟩
def EpS.zero : EpS := ⟨0, fun _ => -1, fun _ => []⟩
set_option maxHeartbeats 2000000 in
theorem new_any (n : Nat) (w : World) (h1 : 1 ≤ n) (h2 : n ≤ 16) : Calls Try.prog 11 #[.int .i64 n] w fun e w' => e = .returned (.pointer (some ⟨w.heap.size, 0, none⟩)) ∧ EpAt w' w.heap.size w.heap.size n EpS.zero (fun _ => .slice none 0 0) ∧ Below w.heap.size w w' := by
  go_enter Try.func11, Try.ntmps11
  have d1 : decide ((n : Int) < 1) = false := decide_eq_false (by omega)
  have d2 : decide ((16 : Int) < n) = false := decide_eq_false (by omega)
  go_wp2_with fail
  go_loopw [4, 14] (fun a i wr => ∃ K : Nat, K ≤ 16 ∧ i = .int .i64 K ∧ wr.heap[w.heap.size]? = some (.cells (epCells n ⟨0, fun j => if j < K then -1 else 0, fun _ => []⟩ (fun _ => .slice none 0 0)).toArray 62 (0, 0)) ∧ Below w.heap.size w wr) (fun _ i _ => 16 - (intOf i).toNat)
  case atStart => exact ⟨0, Nat.zero_le _, rfl, alloc_new w _, bl_alloc (Below.refl _ _) _⟩
  case round =>
    obtain ⟨K, hK, rfl, hblk, hb⟩ := hrel
    by_cases hlt : K < 16
    · have cp := (cell_of_blk hblk (2 + K)).trans (epCells_pin _ _ _ hlt)
      have fr := free_of_blk hblk (2 + K)
      have hs := setCell_same hblk (i := 2 + K) (.int .i64 (-1))
      rw [epCells_set_pin _ _ _ hlt] at hs
      have he : upd (fun j => if j < K then (-1 : Int) else 0) K (-1) = fun j => if j < K + 1 then -1 else 0 := by
        funext j
        unfold upd
        by_cases h : j = K
        · subst h; simp
        · rw [if_neg h]
          show (if j < K then (-1 : Int) else 0) = _
          by_cases h2 : j < K
          · rw [if_pos h2, if_pos (by omega)]
          · rw [if_neg h2, if_neg (by omega)]
      rw [he] at hs
      have HSS := Lib.hid hs
      clear hs he
      go_wp2_with fail
      go_roundw
      case rel => exact ⟨K + 1, by omega, by simp, HSS.out, bl_set hb _ _ (Nat.le_refl _)⟩
      case measure => simp [intOf]; omega
    · obtain rfl : K = 16 := by omega
      clear hlt
      go_wp2_with fail
      go_ret
      refine ⟨rfl, ⟨?_, Nat.le_refl _, h1, h2, fun i hi => ⟨rfl, .inl ⟨rfl, rfl⟩⟩, fun i j k hi hj hij hk => by cases hk⟩, hb⟩
      exact hblk
/-- The limbo of an actor anew: behind a growth of its own row alone. -/
theorem EpAt.set_lim {V w1 : World} {lo b n : Nat} {s : EpS} {lv : Nat → Value} (h : EpAt V lo b n s lv) {a : Nat} (ha : a < 16) {l : List OldV} {v : Value} (hgr : V.grownBy w1 (lv a).ownBlock) (hown : w1.ownsRow lo 64 3 v l.length (oldCells l))
    (hv : ∀ k, v.ownBlock = some k → (lv a).ownBlock = some k ∨ V.heap.size ≤ k) :
    EpAt (w1.setCell ⟨b, 18 + a, none⟩ v) lo b n { s with lim := upd s.lim a l } (upd lv a v) ∧ Only (EpOwn b lv) V (w1.setCell ⟨b, 18 + a, none⟩ v) ∧ ∀ k, EpOwn b (upd lv a v) k → EpOwn b lv k ∨ V.heap.size ≤ k := by
  have ho1 : Only (fun k => (lv a).ownBlock = some k) V w1 := only_grown (Only.refl _ _) hgr (fun k hk => .inl hk)
  have hblk := ho1.block h.blk (h.rows_not_b ha)
  have hb := setCell_same hblk (i := 18 + a) v
  rw [epCells_set_lim n s lv ha v] at hb
  have ho2 : Only (fun k => k = b) w1 (w1.setCell ⟨b, 18 + a, none⟩ v) := (Only.refl (fun k => k = b) w1).setCell _ _ (.inl rfl)
  have hvb : v.ownBlock ≠ some b := fun hk => absurd (own_type hown hk hblk) (by decide)
  have hot : ∀ k, EpOwn b (upd lv a v) k → EpOwn b lv k ∨ V.heap.size ≤ k := by
    rintro k (rfl | ⟨i, hi, hk⟩)
    · exact .inl (.inl rfl)
    · by_cases hia : i = a
      · subst hia
        rw [upd_same] at hk
        rcases hv k hk with h1 | h1
        · exact .inl (.inr ⟨i, hi, h1⟩)
        · exact .inr h1
      · rw [upd_other _ _ hia] at hk
        exact .inl (.inr ⟨i, hi, hk⟩)
  refine ⟨⟨hb, h.lob, h.n1, h.n16, fun i hi => ?_, fun i j k hi hj hij hk => ?_⟩, (ho1.mono (fun k hk => .inr ⟨a, ha, hk⟩)).trans (ho2.mono (fun k hk => .inl hk)), hot⟩
  · show (w1.setCell ⟨b, 18 + a, none⟩ v).ownsRow lo 64 3 (upd lv a v i) (upd s.lim a l i).length (oldCells (upd s.lim a l i))
    by_cases hia : i = a
    · subst hia
      rw [upd_same, upd_same]
      exact ownsRow_kept hown ho2 (by rintro j rfl hk; exact hvb hk)
    · rw [upd_other _ _ hia, show (upd s.lim a l) i = s.lim i from upd_other _ _ hia]
      refine ownsRow_kept (ownsRow_kept (h.row i hi) ho1 (fun j hj hk => h.apart a i j ha hi (fun e => hia e.symm) hj hk)) ho2 (by rintro j rfl hk; exact h.rows_not_b hi hk)
  · by_cases hia : i = a
    · subst hia
      rw [upd_same] at hk
      rw [upd_other _ _ (fun e => hij e.symm)]
      rcases hv k hk with h1 | h1
      · exact h.apart i j k hi hj hij h1
      · intro hk2
        have := Go.Proofs.Ytpklpomajioneaa.own_lt (h.row j hj) hk2
        omega
    · rw [upd_other _ _ hia] at hk
      by_cases hja : j = a
      · subst hja
        rw [upd_same]
        intro hk2
        rcases hv k hk2 with h1 | h1
        · exact h.apart i j k hi hj hij hk h1
        · have := Go.Proofs.Ytpklpomajioneaa.own_lt (h.row i hi) hk
          omega
      · rw [upd_other _ _ hja]
        exact h.apart i j k hi hj hij hk
set_option maxHeartbeats 2000000 in
theorem retire_any {w : World} {lo b n : Nat} {s : EpS} {lv : Nat → Value} (h : EpAt w lo b n s lv) {a : Nat} (ha : a < n) (sl gn : Int) (hlo : lo ≤ w.heap.size) (hl : (s.lim a).length ≤ 1000000) :
    Calls Try.prog 14 #[.pointer (some ⟨b, 0, none⟩), .int .i64 a, .agg #[.int .i64 sl, .int .i64 gn]] w fun e w' => e = .returned (.bool true) ∧ ∃ v, EpAt w' lo b n { s with lim := upd s.lim a (s.lim a ++ [⟨sl, gn, s.now⟩]) } (upd lv a v) ∧ Only (EpOwn b lv) w w' ∧ ∀ k, EpOwn b (upd lv a v) k → EpOwn b lv k ∨ w.heap.size ≤ k := by
  have n16 := h.n16
  have ia : (a : Int) < 16 := by omega
  obtain ⟨A, c, hA⟩ := own_form (h.row a (by omega))
  have H := Lib.hid h
  clear h
  obtain ⟨i0, hi, hz0, hz1, hz2⟩ := info_parts infoOld
  have hb0 : Below w.heap.size w (w.alloc (.cells #[.int .i64 sl, .int .i64 gn] 33)) := bl_alloc (Below.refl _ _) _
  have H0 := Lib.hid (H.out.below0 hb0)
  have c0 := H0.out.c0
  have cl := H0.out.cl (i := a) (by omega)
  have fr := H0.out.fr (18 + a)
  rw [hA] at cl
  have r0 : (w.alloc (.cells #[.int .i64 sl, .int .i64 gn] 33)).cell? ⟨w.heap.size, 0, none⟩ = some (.int .i64 sl) := cell_of_blk (alloc_new w _) 0
  have r1 : (w.alloc (.cells #[.int .i64 sl, .int .i64 gn] 33)).cell? ⟨w.heap.size, 1, none⟩ = some (.int .i64 gn) := cell_of_blk (alloc_new w _) 1
  go_enter Try.func14, Try.ntmps14
  go_wp2_with fail
  refine (is_any H0.out a true (decide_in ha)).mono ?_
  rintro e w' ⟨rfl, rfl⟩
  go_wp2_with fail
  have hrow := Lib.hid (show ((w.alloc (.cells #[.int .i64 sl, .int .i64 gn] 33)).alloc (.cells #[.int .i64 sl, .int .i64 gn, .int .i64 s.now] 64)).drew.ownsRow lo 64 3 (.slice A (s.lim a).length c) (s.lim a).length (oldCells (s.lim a)) by rw [← hA]; exact ((H0.out.row a (by omega)).alloc _))
  have hn0 : ((w.alloc (.cells #[.int .i64 sl, .int .i64 gn] 33)).alloc (.cells #[.int .i64 sl, .int .i64 gn, .int .i64 s.now] 64)).drew.heap[w.heap.size + 1]? = some (.cells #[.int .i64 sl, .int .i64 gn, .int .i64 s.now] 64) := by
    have := alloc_new (w.alloc (.cells #[.int .i64 sl, .int .i64 gn] 33)) (.cells #[.int .i64 sl, .int .i64 gn, .int .i64 s.now] 64)
    rw [show (w.alloc (.cells #[.int .i64 sl, .int .i64 gn] 33)).heap.size = w.heap.size + 1 by simp] at this
    exact this
  have hz : ((w.alloc (.cells #[.int .i64 sl, .int .i64 gn] 33)).alloc (.cells #[.int .i64 sl, .int .i64 gn, .int .i64 s.now] 64)).drew.heap.size = w.heap.size + 2 := by
    show ((w.alloc _).alloc _).heap.size = _
    simp
  have HV := Lib.hid (H0.out.below0 (bl_drew (bl_alloc (Below.refl _ _) (.cells #[.int .i64 sl, .int .i64 gn, .int .i64 s.now] 64))))
  have hoV : Only (EpOwn b lv) w ((w.alloc (.cells #[.int .i64 sl, .int .i64 gn] 33)).alloc (.cells #[.int .i64 sl, .int .i64 gn, .int .i64 s.now] 64)).drew := (((Only.refl _ w).alloc _).alloc _).drew
  have HO := Lib.hid hoV
  have cl2 : ((w.alloc (.cells #[.int .i64 sl, .int .i64 gn] 33)).alloc (.cells #[.int .i64 sl, .int .i64 gn, .int .i64 s.now] 64)).cell? ⟨b, 18 + a, none⟩ = some (.slice A (s.lim a).length c) := (HV.out.cl (i := a) (by omega)).trans (by rw [hA])
  clear hoV
  go_region_law (first | (refine step_append_lies _ (by rfl) _ _ _ (by rfl) lo 64 i0 _ 3 24 Try.underlying59 hi hz0 hz1 hz2 rfl (by decide) (.slice A (s.lim a).length c) (s.lim a).length (oldCells (s.lim a)) (by rfl) hrow.out ⟨w.heap.size + 1, 0, none⟩ 1 1 [.int .i64 sl, .int .i64 gn, .int .i64 s.now] (by rfl) (by rfl) (World.news_of_block (cs := #[.int .i64 sl, .int .i64 gn, .int .i64 s.now]) (t := 64) (fr := (0, 0)) hn0) (by simp [Value.oneCell']) (by decide) (by simp only [maxLen]; omega) (by omega) (by omega) _ rfl ?_; intro g cap w1 hown hgr hat hlt; have hb1 := (only_grown (S := fun k => (lv a).ownBlock = some k) (Only.refl _ _) hgr (fun k hk => .inl (by rw [hA]; exact hk))).block HV.out.blk (HV.out.rows_not_b (by omega)); have cl1 := (cell_of_blk hb1 (18 + a)).trans (epCells_lim n s lv (by omega)); have fr1 := free_of_blk hb1 (18 + a)))
  all_goals
    have hfin := HV.out.set_lim (a := a) (by omega) (l := s.lim a ++ [⟨sl, gn, s.now⟩]) (v := .slice (some ⟨g, 0, none⟩) ((s.lim a).length + 1) cap) (by rw [hA]; exact hgr) (by rw [oldCells_append, List.length_append]; exact hown) (fun k hk => by
      injection hk with hk
      change g = k at hk
      subst hk
      rw [hA]
      rcases hat with h1 | h1
      · exact .inl h1
      · exact .inr (Nat.le_of_eq h1.symm))
    go_wp2
    go_ret
    exact ⟨rfl, _, hfin.1, HO.out.trans hfin.2.1, fun k hk => (hfin.2.2 k hk).imp id (fun h => by rw [hz] at h; omega)⟩


def lay8_ren : Go.Shelf.Ren := ⟨fun | 8 => 32 | 6 => 36 | n => n, fun | 22 => 40 | 23 => 3 | 25 => 31 | 4 => 4 | 3 => 3 | 0 => 0 | n => n, fun | n => n⟩
theorem lay8 : Go.Proofs.SlLaysH.n8 Try.prog lay8_ren := {
  mixed := by kernel_rfl
  f6 := ⟨Try.f36.name, by decide, Try.func36.trans (congrArg some (by kernel_rfl))⟩
  f8 := ⟨Try.f32.name, by decide, Try.func32.trans (congrArg some (by kernel_rfl))⟩
  t0 := Try.underlying0
  a0 := Try.isAgg0
  z0 := Try.sizeOf0
  v0 := Try.zeroValue0
  t3 := Try.underlying3
  a3 := Try.isAgg3
  z3 := Try.sizeOf3
  v3 := Try.zeroValue3
  t4 := Try.underlying4
  a4 := Try.isAgg4
  z4 := Try.sizeOf4
  v4 := Try.zeroValue4
  t22 := Try.underlying40
  a22 := Try.isAgg40
  z22 := Try.sizeOf40
  v22 := Try.zeroValue40
  a23 := Try.isAgg3
  z23 := Try.sizeOf3
  t25 := Try.underlying31
  a25 := Try.isAgg31
  z25 := Try.sizeOf31
  v25 := Try.zeroValue31 }
/-- Advance's question: is someone pinned elsewhere? -/
theorem adv1_any {W : World} {b X : Nat} (now : Int) (hx : W.cell? ⟨X, 0, none⟩ = some (.pointer (some ⟨b, 0, none⟩))) (h0 : W.cell? ⟨b, 0, none⟩ = some (.int .i64 now)) (e : Int) :
    Calls Try.prog 33 #[.int .i64 e, .pointer (some ⟨X, 0, none⟩)] W fun r w' => r = .returned (.bool (e != -1 && e != now)) ∧ ∃ q, w' = W.drewN q := by
  by_cases he : e = -1
  · subst he
    go_enter Try.func33, Try.ntmps33
    go_wp2_with fail
    go_ret
    exact ⟨by simp, 0, rfl⟩
  · have d1 : (e != -1) = true := by simpa using he
    go_enter Try.func33, Try.ntmps33
    go_wp2_with fail
    go_ret
    refine ⟨?_, 0, rfl⟩
    show Ending.returned (Value.bool (e != now)) = _
    rw [d1, Bool.true_and]
def EpS.blocked (s : EpS) : Bool := (List.range 16).any fun i => s.pin i != -1 && s.pin i != s.now
open Go.Shelf Go.Lib in
theorem contains_any {w : World} {lo b n X : Nat} {s : EpS} {lv : Nat → Value} (h : EpAt w lo b n s lv) (hX : w.cell? ⟨X, 0, none⟩ = some (.pointer (some ⟨b, 0, none⟩))) (hlt : X < w.heap.size) :
    Calls Try.prog 32 #[.slice (some ⟨b, 2, none⟩) 16 16, .func (.func 33) #[] #[.pointer (some ⟨X, 0, none⟩)]] w fun e w' => e = .returned (.bool s.blocked) ∧ ∃ q, w' = w.drewN q := by
  have hb := block_lt h.blk
  have hp : PredAt Try.prog 33 #[.pointer (some ⟨X, 0, none⟩)] (Value.int .i64) (fun e => e != -1 && e != (s.now : Int)) w := fun W x hW => by
    show Calls Try.prog 33 #[.int .i64 x, .pointer (some ⟨X, 0, none⟩)] W _
    exact adv1_any (s.now : Int) ((hW.cell (p := ⟨X, 0, none⟩) hlt).trans hX) ((hW.cell (p := ⟨b, 0, none⟩) hb).trans h.c0) x
  have := AnyE.slices_ContainsFunc lay8 (Value.int .i64) (fun e => e != -1 && e != (s.now : Int)) 33 #[.pointer (some ⟨X, 0, none⟩)] (enters_of Try.func33 (by kernel_rfl) rfl) b 2 16 16 ((List.range 16).map s.pin) w hp (by simp) (by decide) (fun j hj => by
    have hj' : j < 16 := by simpa using hj
    rw [h.cp hj', getElem!_pos _ j hj]
    simp)
  have he : (((List.range 16).map s.pin).take 16).any (fun e => e != -1 && e != (s.now : Int)) = s.blocked := by
    rw [List.take_of_length_le (by simp), List.any_map]
    rfl
  rw [he] at this
  exact this
theorem advance_nil (w : World) : Calls Try.prog 16 #[.pointer none] w fun e w' => e = .returned (.bool false) ∧ Below w.heap.size w w' := by
  go_enter Try.func16, Try.ntmps16
  go_wp2_with fail
  go_ret
  exact ⟨rfl, bl_alloc (Below.refl _ _) _⟩
theorem advance_no {w : World} {lo b n : Nat} {s : EpS} {lv : Nat → Value} (h : EpAt w lo b n s lv) (hn : s.now ≤ 1000000) (hb : s.blocked = true) :
    Calls Try.prog 16 #[.pointer (some ⟨b, 0, none⟩)] w fun e w' => e = .returned (.bool false) ∧ Below w.heap.size w w' := by
  have hW : Below w.heap.size w (w.alloc (.cells #[.pointer (some ⟨b, 0, none⟩)] 25)) := bl_alloc (Below.refl _ _) _
  have H := Lib.hid (h.below0 hW)
  have c0 := H.out.c0
  have hX := cell_of_blk (alloc_new w (.cells #[.pointer (some ⟨b, 0, none⟩)] 25)) 0
  have d1 : ((s.now : Int) == 4611686018427387904) = false := by simp; omega
  have HX := Lib.hid hX
  have HB := Lib.hid hb
  clear h hX hb
  go_enter Try.func16, Try.ntmps16
  go_wp2_with fail
  refine (contains_any H.out HX.out (by simp)).mono ?_
  rintro e w' ⟨rfl, q, rfl⟩
  simp only [HB.out]
  go_wp2_with fail
  go_ret
  exact ⟨rfl, bl_drewN hW _⟩
theorem advance_yes {w : World} {lo b n : Nat} {s : EpS} {lv : Nat → Value} (h : EpAt w lo b n s lv) (hn : s.now ≤ 1000000) (hb : s.blocked = false) :
    Calls Try.prog 16 #[.pointer (some ⟨b, 0, none⟩)] w fun e w' => e = .returned (.bool true) ∧ EpAt w' lo b n { s with now := s.now + 1 } lv ∧ Only (fun k => k = b) w w' := by
  have hW : Below w.heap.size w (w.alloc (.cells #[.pointer (some ⟨b, 0, none⟩)] 25)) := bl_alloc (Below.refl _ _) _
  have hO : Only (fun k => k = b) w (w.alloc (.cells #[.pointer (some ⟨b, 0, none⟩)] 25)) := (Only.refl _ _).alloc _
  have H := Lib.hid (h.below0 hW)
  have c0 := H.out.c0
  have hX := cell_of_blk (alloc_new w (.cells #[.pointer (some ⟨b, 0, none⟩)] 25)) 0
  have d1 : ((s.now : Int) == 4611686018427387904) = false := by simp; omega
  have HX := Lib.hid hX
  have HB := Lib.hid hb
  have s1 : IntKind.i64.wrap ((s.now : Int) + 1) = ((s.now + 1 : Nat) : Int) := (IntWalk.i64_in _ (by omega)).trans (by omega)
  clear h hX hb
  go_enter Try.func16, Try.ntmps16
  go_wp2_with fail
  refine (contains_any H.out HX.out (by simp)).mono ?_
  rintro e w' ⟨rfl, q, rfl⟩
  simp only [HB.out]
  have H2 := H.out.drewN q
  have hO2 := hO.drewN q
  have hx2 : ((w.alloc (.cells #[.pointer (some ⟨b, 0, none⟩)] 25)).drewN q).cell? ⟨w.heap.size, 0, none⟩ = some (.pointer (some ⟨b, 0, none⟩)) := HX.out
  generalize (w.alloc (.cells #[.pointer (some ⟨b, 0, none⟩)] 25)).drewN q = w3 at *
  have c2 := H2.c0
  have f2 := H2.fr 0
  have H3 := Lib.hid H2
  clear H2
  go_wp2_with fail
  go_ret
  have := H3.out.set_now (s.now + 1)
  exact ⟨rfl, by simpa using this, hO2.setCell _ _ (.inl rfl)⟩
end Go.Proofs.Ytpklpomajioneaa
