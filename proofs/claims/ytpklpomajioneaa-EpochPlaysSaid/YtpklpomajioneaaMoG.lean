/- Chapter 12: the document's epochs: New, Retire, Advance, Ripe. -/
import Derived.Test.YtpklpomajioneaaMoF
namespace Go.Proofs.Ytpklpomajioneaa
open Go.RowKit
set_option linter.unusedVariables false
set_option linter.unusedSimpArgs false

theorem infoActor : (Try.prog.info? 70).map (fun i => (i.zero, i.size, i.bytes)) = some (some (.agg #[.int .i64 0, .slice none 0 0]), 2, 32) := by kernel_rfl
theorem infoROld : (Try.prog.info? 72).map (fun i => (i.zero, i.size, i.bytes)) = some (some (.agg #[.int .i64 0, .int .i64 0, .int .i64 0]), 3, 24) := by kernel_rfl
def acts (I : Nat) : List Value := (List.range I).flatMap fun _ => [.int .i64 (-1), .slice none 0 0]
theorem acts_succ (I : Nat) : acts (I + 1) = acts I ++ [.int .i64 (-1), .slice none 0 0] := by simp [acts, List.range_succ]
theorem acts_length (I : Nat) : (acts I).length = I * 2 := by
  induction I with
  | zero => rfl
  | succ I ih => rw [acts_succ, List.length_append, ih]; simp; omega
theorem acts_at (n : Nat) : ∀ i, i < n → (acts n)[i * 2]? = some (.int .i64 (-1)) ∧ (acts n)[i * 2 + 1]? = some (.slice none 0 0) := by
  induction n with
  | zero => intro i hi; omega
  | succ n ih =>
    intro i hi
    rw [acts_succ]
    have hl := acts_length n
    by_cases h : i < n
    · rw [List.getElem?_append_left (by omega), List.getElem?_append_left (by omega)]
      exact ih i h
    · obtain rfl : i = n := by omega
      rw [List.getElem?_append_right (by omega), List.getElem?_append_right (by omega), hl, Nat.sub_self, show i * 2 + 1 - i * 2 = 1 by omega]
      exact ⟨rfl, rfl⟩
set_option maxHeartbeats 2000000 in
theorem mo_new (n : Nat) (w : World) (h1 : 1 ≤ n) (h2 : n ≤ 16) : Calls Try.prog 21 #[.int .i64 n] w fun e w' => e = .returned (.pointer (some ⟨w.heap.size, 0, none⟩)) ∧ (∃ R c, MoAt w' w.heap.size w.heap.size R n c EpS.zero (fun _ => .slice none 0 0)) ∧ Below w.heap.size w w' := by
  obtain ⟨i0, hi, hz0, hz1, hz2⟩ := info_parts infoActor
  go_enter Try.func21, Try.ntmps21
  go_wp2_with fail
  go_loopw [4] (fun i wr => ∃ (I : Nat) (v : Value), I ≤ n ∧ i = .int .i64 I ∧ wr.heap[w.heap.size]? = some (.cells [.int .i64 0, v].toArray 57 (0, 0)) ∧ wr.ownsRow w.heap.size 70 2 v I (acts I) ∧ Below w.heap.size w wr) (fun i _ => n - (intOf i).toNat)
  case atStart => exact ⟨0, _, Nat.zero_le _, rfl, alloc_new w _, ⟨rfl, .inl ⟨rfl, rfl⟩⟩, bl_alloc (Below.refl _ _) _⟩
  case round =>
    obtain ⟨I, v, hI, rfl, hblk, hown, hb⟩ := hrel
    by_cases hlt : I < n
    · obtain ⟨A, c, rfl⟩ := own_form hown
      have ci := cell_of_blk hblk 1
      have fr := free_of_blk hblk 1
      have il : (I : Int) < n := by omega
      have hbs := block_lt hblk
      have hn0 := World.news_of_block (cs := #[.int .i64 (-1), .slice none 0 0]) (t := 70) (fr := (0, 0)) (alloc_new wr (.cells #[.int .i64 (-1), .slice none 0 0] 70))
      have HB := Lib.hid (Go.Proofs.Ytpklpomajioneaa.alloc_old hblk (.cells #[.int .i64 (-1), .slice none 0 0] 70))
      have HO := Lib.hid (hown.alloc (.cells #[.int .i64 (-1), .slice none 0 0] 70))
      have HL := Lib.hid (bl_alloc hb (.cells #[.int .i64 (-1), .slice none 0 0] 70))
      clear hblk hown
      go_wp2_with (at_builtin; refine wpList_append_lies _ rfl (.tmp 16) (.tmp 18) 55 rfl w.heap.size 70 i0 _ 2 32 Try.underlying55 hi hz0 hz1 hz2 rfl (by decide) (.slice A I c) I (acts I) rfl HO.out ⟨wr.heap.size, 0, none⟩ 1 1 [.int .i64 (-1), .slice none 0 0] rfl rfl hn0 (by simp [Value.oneCell']) (by decide) (by simp only [maxLen]; omega) (by omega) HL.out.size _ rfl ?_; intro g cap8 w8 hown8 hgr8 hat8 _; have hp8 := (only_grown (S := fun k => (Value.slice A I c).ownBlock = some k) (Only.refl _ _) hgr8 (fun k hk => .inl hk)).block HB.out (fun hk => absurd (own_type HO.out hk HB.out) (by decide)); have zp8 := cell_of_blk hp8 1; have fp8 := free_of_blk hp8 1)
      have ho8 : Only (fun k => (Value.slice A I c).ownBlock = some k) _ w8 := only_grown (Only.refl _ _) hgr8 (fun k hk => .inl hk)
      have hs9 := setCell_same hp8 (i := 1) (.slice (some ⟨g, 0, none⟩) (I + 1) cap8)
      have ho9 : Only (fun k => k = w.heap.size) w8 (w8.setCell ⟨w.heap.size, 1, none⟩ (.slice (some ⟨g, 0, none⟩) (I + 1) cap8)) := (Only.refl (fun k => k = w.heap.size) w8).setCell _ _ (.inl rfl)
      have hown9 := ownsRow_kept hown8 ho9 (by rintro j rfl hk; exact absurd (own_type hown8 hk hp8) (by decide))
      have hb9 := bl_only (bl_only HL.out ho8 (fun k hk => own_block HO.out hk)) ho9 (by rintro k rfl; exact Nat.le_refl _)
      rw [← acts_succ] at hown9
      have HS9 := Lib.hid hs9
      have HOW9 := Lib.hid hown9
      clear hs9 hown9 hown8 hgr8 hat8 ho8 ho9 hp8
      go_roundw
      case rel => exact ⟨I + 1, _, hlt, by simp, HS9.out, HOW9.out, hb9⟩
      case measure => simp [intOf]; omega
    · obtain rfl : I = n := by omega
      have il : ¬ (I : Int) < I := by omega
      have hblk' := Lib.hid hblk
      have hown' := Lib.hid hown
      clear hblk hown
      go_wp2_with fail
      go_ret
      obtain ⟨hlen, h | ⟨g, cap, cur, rfl, hbg, hg, hnc, hcm, hcs, htk⟩⟩ := hown'.out
      · omega
      · refine ⟨rfl, ⟨g, cap, hblk'.out, ⟨cur.toList, by simpa using hg, fun i hi => ?_⟩, Nat.le_refl _, hbg, h1, h2, fun i hi => ⟨rfl, .inl ⟨rfl, rfl⟩⟩, fun i j k hi hj hij hk => (by cases hk)⟩, hb⟩
        have h := acts_at I i hi
        rw [← htk, List.getElem?_take_of_lt (by omega), List.getElem?_take_of_lt (by omega)] at h
        exact h
def moHeld (b R n c RB : Nat) (s : EpS) (sl gn : Int) (w' : World) : Prop := w'.cell? ⟨b, 1, none⟩ = some (.slice (some ⟨R, 0, none⟩) n c) ∧ w'.cell? ⟨b, 0, none⟩ = some (.int .i64 s.now) ∧ w'.cell? ⟨RB, 0, none⟩ = some (.int .i64 sl) ∧ w'.cell? ⟨RB, 1, none⟩ = some (.int .i64 gn)
theorem moHeld.of {w : World} {lo b R n c RB : Nat} {s s' : EpS} {mv : Nat → Value} {sl gn : Int} (h : MoAt w lo b R n c s' mv) (hs : s'.now = s.now) (hr : w.heap[RB]? = some (.cells #[.int .i64 sl, .int .i64 gn] 33)) : moHeld b R n c RB s sl gn w := ⟨h.c1, by rw [← hs]; exact h.c0, cell_of_blk hr 0, cell_of_blk hr 1⟩
set_option maxHeartbeats 4000000 in
theorem mo_retire {w : World} {lo b R n c : Nat} {s : EpS} {mv : Nat → Value} (h : MoAt w lo b R n c s mv) {a : Nat} (hk : a < n) (sl gn : Int) (hlo : lo ≤ w.heap.size) (hl : (s.lim a).length ≤ 1000000) :
    Calls Try.prog 24 #[.pointer (some ⟨b, 0, none⟩), .int .i64 a, .agg #[.int .i64 sl, .int .i64 gn]] w fun e w' => e = .returned (.bool true) ∧ (∃ v, MoAt w' lo b R n c { s with lim := upd s.lim a (s.lim a ++ [⟨sl, gn, s.now⟩]) } (upd mv a v)) ∧ Only (MoOwn b R n mv) w w' := by
  have ik : (a : Int) < n := by omega
  obtain ⟨A, c', hA⟩ := own_form (h.row a hk)
  have H := Lib.hid h
  clear h
  obtain ⟨i0, hi, hz0, hz1, hz2⟩ := info_parts infoROld
  have H0 := Lib.hid (H.out.below0 (bl_alloc (Below.refl _ _) (.cells #[.int .i64 sl, .int .i64 gn] 33)))
  have H0d : Hid (MoAt (w.alloc (.cells #[.int .i64 sl, .int .i64 gn] 33)).drew lo b R n c s mv) := Lib.hid (H0.out.below0 (bl_drew (Below.refl _ _)))
  have H1 : Hid (MoAt ((w.alloc (.cells #[.int .i64 sl, .int .i64 gn] 33)).drew.alloc (.cells #[.int .i64 sl, .int .i64 gn, .int .i64 s.now] 72)) lo b R n c s mv) := Lib.hid (H0d.out.below0 (bl_alloc (Below.refl _ _) _))
  have hr0 : (w.alloc (.cells #[.int .i64 sl, .int .i64 gn] 33)).drew.heap[w.heap.size]? = some (.cells #[.int .i64 sl, .int .i64 gn] 33) := alloc_new w _
  have hr1 := Go.Proofs.Ytpklpomajioneaa.alloc_old hr0 (.cells #[.int .i64 sl, .int .i64 gn, .int .i64 s.now] 72)
  have HO1 : Hid (Only (MoOwn b R n mv) w ((w.alloc (.cells #[.int .i64 sl, .int .i64 gn] 33)).drew.alloc (.cells #[.int .i64 sl, .int .i64 gn, .int .i64 s.now] 72))) := Lib.hid (((Only.refl _ w).alloc _).drew.alloc _)
  have hn0 := alloc_new (w.alloc (.cells #[.int .i64 sl, .int .i64 gn] 33)).drew (.cells #[.int .i64 sl, .int .i64 gn, .int .i64 s.now] 72)
  rw [show (w.alloc (.cells #[.int .i64 sl, .int .i64 gn] 33)).drew.heap.size = w.heap.size + 1 by simp [World.drew]] at hn0
  have hz : ((w.alloc (.cells #[.int .i64 sl, .int .i64 gn] 33)).drew.alloc (.cells #[.int .i64 sl, .int .i64 gn, .int .i64 s.now] 72)).heap.size = w.heap.size + 2 := by simp [World.drew]
  have cl0 : (w.alloc (.cells #[.int .i64 sl, .int .i64 gn] 33)).drew.cell? ⟨R, a * 2 + 1, none⟩ = some (.slice A (s.lim a).length c') := (H0d.out.cl hk).trans (by rw [hA])
  have cl1 : ((w.alloc (.cells #[.int .i64 sl, .int .i64 gn] 33)).drew.alloc (.cells #[.int .i64 sl, .int .i64 gn, .int .i64 s.now] 72)).cell? ⟨R, a * 2 + 1, none⟩ = some (.slice A (s.lim a).length c') := (H1.out.cl hk).trans (by rw [hA])
  have hzz : ((w.alloc (.cells #[.int .i64 sl, .int .i64 gn] 33)).alloc (.cells #[.int .i64 sl, .int .i64 gn, .int .i64 s.now] 72)).drew.heap.size = w.heap.size + 2 := hz
  have cl2 : ((w.alloc (.cells #[.int .i64 sl, .int .i64 gn] 33)).alloc (.cells #[.int .i64 sl, .int .i64 gn, .int .i64 s.now] 72)).cell? ⟨R, a * 2 + 1, none⟩ = some (.slice A (s.lim a).length c') := cl1
  have cl3 : (w.alloc (.cells #[.int .i64 sl, .int .i64 gn] 33)).cell? ⟨R, a * 2 + 1, none⟩ = some (.slice A (s.lim a).length c') := cl0
  have hrow := Lib.hid (show ((w.alloc (.cells #[.int .i64 sl, .int .i64 gn] 33)).drew.alloc (.cells #[.int .i64 sl, .int .i64 gn, .int .i64 s.now] 72)).ownsRow lo 72 3 (.slice A (s.lim a).length c') (s.lim a).length (oldCells (s.lim a)) by rw [← hA]; exact H1.out.row a hk)
  have HA := Lib.hid hA
  clear hA
  obtain ⟨cur, hcR, hcur⟩ := H1.out.rb
  have HCR := Lib.hid hcur
  have hk0 : a < n := hk
  clear hcur
  go_enter Try.func24, Try.ntmps24
  go_wp2_with fail
  refine (mo_is H0.out a true (decide_in hk)).mono ?_
  rintro e w' ⟨rfl, rfl⟩
  go_wp2_with fail
  refine wp_region_held_drew (S := moHeld b R n c w.heap.size s sl gn) (by kernel_rfl) (moHeld.of H0d.out rfl hr0) (fun hHeld => ?_)
  refine' wpAnyH_take (i := 0) (oi := ⟨some 13, _, _, _, _, _⟩) (v := ?v0) rfl (by kernel_rfl) (by kernel_rfl) (by kernel_rfl) (fun _ _ _ h => h) (Or.inl ⟨by rfl, ?hy0⟩) hHeld ?rest0
  case hy0 => (intro W hSw; obtain ⟨q1, q2, q3, q4⟩ := hSw; go_simp; first | done | with_reducible rfl)
  simp only [Act.put, List.setIfInBounds_toArray, List.set_cons_zero, List.set_cons_succ]
  refine' wpAnyH_take (i := 1) (oi := ⟨some 14, _, _, _, _, _⟩) (v := ?v1) rfl (by kernel_rfl) (by kernel_rfl) (by kernel_rfl) (fun _ _ _ h => h) (Or.inl ⟨by rfl, ?hy1⟩) hHeld ?rest1
  case hy1 => (intro W hSw; obtain ⟨q1, q2, q3, q4⟩ := hSw; go_simp; first | done | with_reducible rfl)
  simp only [Act.put, List.setIfInBounds_toArray, List.set_cons_zero, List.set_cons_succ]
  refine' wpAnyH_take (i := 2) (oi := ⟨some 15, _, _, _, _, _⟩) (v := ?v2) rfl (by kernel_rfl) (by kernel_rfl) (by kernel_rfl) (fun _ _ _ h => h) (Or.inl ⟨by rfl, ?hy2⟩) hHeld ?rest2
  case hy2 => (intro W hSw; obtain ⟨q1, q2, q3, q4⟩ := hSw; go_simp; first | done | with_reducible rfl)
  simp only [Act.put, List.setIfInBounds_toArray, List.set_cons_zero, List.set_cons_succ]
  refine' wpAnyH_take (i := 3) (oi := ⟨some 16, _, _, _, _, _⟩) (v := ?v3) rfl (by kernel_rfl) (by kernel_rfl) (by kernel_rfl) (fun _ _ _ h => h) (Or.inl ⟨by rfl, ?hy3⟩) hHeld ?rest3
  case hy3 => (intro W hSw; obtain ⟨q1, q2, q3, q4⟩ := hSw; go_simp; first | done | with_reducible rfl)
  simp only [Act.put, List.setIfInBounds_toArray, List.set_cons_zero, List.set_cons_succ]
  refine' wpAnyH_take (i := 4) (oi := ⟨some 17, _, _, _, _, _⟩) (v := ?v4) rfl (by kernel_rfl) (by kernel_rfl) (by kernel_rfl) (fun _ _ _ h => h) (Or.inl ⟨by rfl, ?hy4⟩) hHeld ?rest4
  case hy4 => (intro W hSw; obtain ⟨q1, q2, q3, q4⟩ := hSw; go_simp; first | done | with_reducible rfl)
  simp only [Act.put, List.setIfInBounds_toArray, List.set_cons_zero, List.set_cons_succ]
  refine' wpAnyH_take (i := 5) (oi := ⟨some 18, _, _, _, _, _⟩) (v := ?v5) rfl (by kernel_rfl) (by kernel_rfl) (by kernel_rfl) (fun _ _ _ h => h) (Or.inl ⟨by rfl, ?hy5⟩) hHeld ?rest5
  case hy5 => (intro W hSw; obtain ⟨q1, q2, q3, q4⟩ := hSw; go_simp; first | done | with_reducible rfl)
  simp only [Act.put, List.setIfInBounds_toArray, List.set_cons_zero, List.set_cons_succ]
  refine' wpAnyH_take (i := 6) (oi := ⟨some 19, _, _, _, _, _⟩) (v := ?v6) rfl (by kernel_rfl) (by kernel_rfl) (by kernel_rfl) (fun _ _ _ h => h) (Or.inl ⟨by rfl, ?hy6⟩) hHeld ?rest6
  case hy6 => (intro W hSw; obtain ⟨q1, q2, q3, q4⟩ := hSw; go_simp; first | done | with_reducible rfl)
  simp only [Act.put, List.setIfInBounds_toArray, List.set_cons_zero, List.set_cons_succ]
  refine' wpAnyH_take (i := 7) (oi := ⟨some 20, _, _, _, _, _⟩) (v := ?v7) rfl (by kernel_rfl) (by kernel_rfl) (by kernel_rfl) (fun _ _ _ h => h) (Or.inl ⟨by rfl, ?hy7⟩) hHeld ?rest7
  case hy7 => (intro W hSw; obtain ⟨q1, q2, q3, q4⟩ := hSw; go_simp; first | done | with_reducible rfl)
  simp only [Act.put, List.setIfInBounds_toArray, List.set_cons_zero, List.set_cons_succ]
  refine' wpAnyH_take (i := 8) (oi := ⟨some 21, _, _, _, _, _⟩) (v := ?v8) rfl (by kernel_rfl) (by kernel_rfl) (by kernel_rfl) (fun _ _ _ h => h) (Or.inl ⟨by rfl, ?hy8⟩) hHeld ?rest8
  case hy8 => (intro W hSw; obtain ⟨q1, q2, q3, q4⟩ := hSw; go_simp; first | done | with_reducible rfl)
  simp only [Act.put, List.setIfInBounds_toArray, List.set_cons_zero, List.set_cons_succ]
  refine' wpAnyH_take (i := 9) (oi := ⟨some 22, _, _, _, _, _⟩) (v := ?v9) rfl (by kernel_rfl) (by kernel_rfl) (by kernel_rfl) (fun _ _ _ h => h) (Or.inl ⟨by rfl, ?hy9⟩) hHeld ?rest9
  case hy9 => (intro W hSw; obtain ⟨q1, q2, q3, q4⟩ := hSw; go_simp; first | done | with_reducible rfl)
  simp only [Act.put, List.setIfInBounds_toArray, List.set_cons_zero, List.set_cons_succ]
  refine' wpAnyH_take (i := 10) (oi := ⟨some 23, _, _, _, _, _⟩) (v := ?v10) rfl (by kernel_rfl) (by kernel_rfl) (by kernel_rfl) (fun _ _ _ h => h) (Or.inl ⟨by rfl, ?hy10⟩) hHeld ?rest10
  case hy10 => (intro W hSw; obtain ⟨q1, q2, q3, q4⟩ := hSw; go_simp; first | done | with_reducible rfl)
  simp only [Act.put, List.setIfInBounds_toArray, List.set_cons_zero, List.set_cons_succ]
  refine' wpAnyH_take (i := 11) (oi := ⟨some 24, _, _, _, _, _⟩) (v := ?v11) rfl (by kernel_rfl) (by kernel_rfl) (by kernel_rfl) (fun _ _ _ h => h) (Or.inl ⟨by rfl, ?hy11⟩) hHeld ?rest11
  case hy11 => (intro W hSw; obtain ⟨q1, q2, q3, q4⟩ := hSw; go_simp; first | done | with_reducible rfl)
  simp only [Act.put, List.setIfInBounds_toArray, List.set_cons_zero, List.set_cons_succ]
  refine' wpAnyH_take (i := 13) (oi := ⟨some 26, _, _, _, _, _⟩) (v := ?v13) rfl (by kernel_rfl) (by kernel_rfl) (by kernel_rfl) (fun _ _ _ h => h) (Or.inl ⟨by rfl, ?hy13⟩) hHeld ?rest13
  case hy13 => (intro W hSw; obtain ⟨q1, q2, q3, q4⟩ := hSw; go_simp; first | done | with_reducible rfl)
  simp only [Act.put, List.setIfInBounds_toArray, List.set_cons_zero, List.set_cons_succ]
  refine' wpAnyH_take (i := 14) (oi := ⟨some 27, _, _, _, _, _⟩) (v := ?v14) rfl (by kernel_rfl) (by kernel_rfl) (by kernel_rfl) (fun _ _ _ h => h) (Or.inl ⟨by rfl, ?hy14⟩) hHeld ?rest14
  case hy14 => (intro W hSw; obtain ⟨q1, q2, q3, q4⟩ := hSw; go_simp; first | done | with_reducible rfl)
  simp only [Act.put, List.setIfInBounds_toArray, List.set_cons_zero, List.set_cons_succ]
  refine' wpAnyH_take (i := 15) (oi := ⟨some 28, _, _, _, _, _⟩) (v := ?v15) rfl (by kernel_rfl) (by kernel_rfl) (by kernel_rfl) (fun _ _ _ h => h) (Or.inl ⟨by rfl, ?hy15⟩) hHeld ?rest15
  case hy15 => (intro W hSw; obtain ⟨q1, q2, q3, q4⟩ := hSw; go_simp; first | done | with_reducible rfl)
  simp only [Act.put, List.setIfInBounds_toArray, List.set_cons_zero, List.set_cons_succ]
  refine' wpAnyH_take (i := 16) (oi := ⟨some 29, _, _, _, _, _⟩) (v := ?v16) rfl (by kernel_rfl) (by kernel_rfl) (by kernel_rfl) (fun _ _ _ h => h) (Or.inl ⟨by rfl, ?hy16⟩) hHeld ?rest16
  case hy16 => (intro W hSw; obtain ⟨q1, q2, q3, q4⟩ := hSw; go_simp; first | done | with_reducible rfl)
  simp only [Act.put, List.setIfInBounds_toArray, List.set_cons_zero, List.set_cons_succ]
  refine' wpAnyH_take (i := 17) (oi := ⟨some 30, _, _, _, _, _⟩) (v := ?v17) rfl (by kernel_rfl) (by kernel_rfl) (by kernel_rfl) (fun _ _ _ h => h) (Or.inl ⟨by rfl, ?hy17⟩) hHeld ?rest17
  case hy17 => (intro W hSw; obtain ⟨q1, q2, q3, q4⟩ := hSw; go_simp; first | done | with_reducible rfl)
  simp only [Act.put, List.setIfInBounds_toArray, List.set_cons_zero, List.set_cons_succ]
  refine' wpAnyH_take (i := 18) (oi := ⟨some 31, _, _, _, _, _⟩) (v := ?v18) rfl (by kernel_rfl) (by kernel_rfl) (by kernel_rfl) (fun _ _ _ h => h) (Or.inl ⟨by rfl, ?hy18⟩) hHeld ?rest18
  case hy18 => (intro W hSw; obtain ⟨q1, q2, q3, q4⟩ := hSw; go_simp; first | done | with_reducible rfl)
  simp only [Act.put, List.setIfInBounds_toArray, List.set_cons_zero, List.set_cons_succ]
  refine wpAnyH_ready (rs := [12, 19]) (by kernel_rfl) (by simp) ?_
  refine AllReadyH.cons (o := ⟨some 25, _, _, _, _, _⟩) rfl (fun K hK => ?_) (AllReadyH.cons (o := ⟨some 32, _, _, _, _, _⟩) rfl (fun K hK => ?_) AllReadyH.nil)
  · go_simp
    refine hK.out _ _ hHeld (fun hHeld => ?_)
    clear hK K
    try simp only [Act.put, List.setIfInBounds_toArray, List.set_cons_zero, List.set_cons_succ]
    refine wpAnyH_ready (rs := [19]) (by kernel_rfl) (by simp) ?_
    refine AllReadyH.cons (o := ⟨some 32, _, _, _, _, _⟩) rfl (fun K hK => ?_) AllReadyH.nil
    go_simp
    refine hK.out _ _ (moHeld.of H1.out rfl hr1) (fun hHeld => ?_)
    clear hK K
    try simp only [Act.put, List.setIfInBounds_toArray, List.set_cons_zero, List.set_cons_succ]
    refine wpAnyH_ready (rs := [20]) (by kernel_rfl) (by simp) ?_
    refine AllReadyH.cons (o := ⟨some 33, _, _, _, _, _⟩) rfl (fun K hK => ?_) AllReadyH.nil
    refine step_append_lies _ (by rfl) _ _ _ (by rfl) lo 72 i0 _ 3 24 Try.underlying68 hi hz0 hz1 hz2 rfl (by decide) (.slice A (s.lim a).length c') (s.lim a).length (oldCells (s.lim a)) (by rfl) hrow.out ⟨w.heap.size + 1, 0, none⟩ 1 1 [.int .i64 sl, .int .i64 gn, .int .i64 s.now] (by rfl) (by rfl) (World.news_of_block (cs := #[.int .i64 sl, .int .i64 gn, .int .i64 s.now]) (t := 72) (fr := (0, 0)) hn0) (by simp [Value.oneCell']) (by decide) (by simp only [maxLen]; omega) (by omega) (by omega) _ rfl ?_
    intro g cap w1 hown hgr hat hlt
    have hog := only_grown (S := fun k => (mv a).ownBlock = some k) (Only.refl _ _) hgr (fun k hk => .inl (by rw [HA.out]; exact hk))
    have hc1 := hog.block hcR (fun hk => (H1.out.row_not hk0 hk).2 rfl)
    have hb1 := hog.block H1.out.eb (fun hk => (H1.out.row_not hk0 hk).1 rfl)
    have hr2 := hog.block hr1 (fun hk => absurd (own_type (H1.out.row a hk0) hk hr1) (by decide))
    have zc1 := (cell_of_blk hc1 (a * 2 + 1)).trans (HCR.out a hk0).2
    have fc1 := free_of_blk hc1 (a * 2 + 1)
    have hS1 : moHeld b R n c w.heap.size s sl gn w1 := ⟨cell_of_blk hb1 1, cell_of_blk hb1 0, cell_of_blk hr2 0, cell_of_blk hr2 1⟩
    have hfin := H1.out.set_lim hk0 (l := s.lim a ++ [⟨sl, gn, s.now⟩]) (v := .slice (some ⟨g, 0, none⟩) ((s.lim a).length + 1) cap) (.inr rfl) (by rw [HA.out]; exact hgr) (by rw [oldCells_append, List.length_append]; exact hown) (fun k hk => (by
        injection hk with hk
        change g = k at hk
        subst hk
        rcases hat with h1 | h1
        · exact .inl (by rw [HA.out]; exact h1)
        · exact .inr (fun i hi hk2 => by
            have := Go.Proofs.Ytpklpomajioneaa.own_lt (H1.out.row i hi) hk2
            omega)))
    have hr3 := ((Only.refl (fun k => k = R) w1).setCell ⟨R, a * 2 + 1, none⟩ (.slice (some ⟨g, 0, none⟩) ((s.lim a).length + 1) cap) (.inl rfl)).block hr2 (fun hk => absurd (hk ▸ hr2) (by rw [hc1]; simp))
    refine hK.out _ _ hS1 (fun hHeld => ?_)
    clear hK K
    try simp only [Act.put, List.setIfInBounds_toArray, List.set_cons_zero, List.set_cons_succ]
    refine' wpAnyH_take (i := 21) (oi := ⟨some 34, _, _, _, _, _⟩) (v := ?v101) rfl (by kernel_rfl) (by kernel_rfl) (by kernel_rfl) (fun _ _ _ h => h) (Or.inl ⟨by rfl, ?hy101⟩) hHeld ?rest101
    case hy101 => (intro W hSw; obtain ⟨q1, q2, q3, q4⟩ := hSw; go_simp; first | done | with_reducible rfl)
    simp only [Act.put, List.setIfInBounds_toArray, List.set_cons_zero, List.set_cons_succ]
    refine' wpAnyH_take (i := 22) (oi := ⟨some 35, _, _, _, _, _⟩) (v := ?v102) rfl (by kernel_rfl) (by kernel_rfl) (by kernel_rfl) (fun _ _ _ h => h) (Or.inl ⟨by rfl, ?hy102⟩) hHeld ?rest102
    case hy102 => (intro W hSw; obtain ⟨q1, q2, q3, q4⟩ := hSw; go_simp; first | done | with_reducible rfl)
    simp only [Act.put, List.setIfInBounds_toArray, List.set_cons_zero, List.set_cons_succ]
    refine wpAnyH_ready (rs := [23]) (by kernel_rfl) (by simp) ?_
    refine AllReadyH.cons (o := ⟨none, _, _, _, _, _⟩) rfl (fun K hK => ?_) AllReadyH.nil
    go_simp
    refine hK.out _ _ (moHeld.of hfin.1 rfl hr3) (fun hHeld => ?_)
    clear hK K
    try simp only [Act.put, List.setIfInBounds_toArray, List.set_cons_zero, List.set_cons_succ]
    refine wpAnyH_done (by kernel_rfl) ?_ _
    go_wp2
    go_ret
    exact ⟨rfl, ⟨_, hfin.1⟩, HO1.out.trans hfin.2⟩
  · go_simp
    refine hK.out _ _ (moHeld.of H1.out rfl hr1) (fun hHeld => ?_)
    clear hK K
    try simp only [Act.put, List.setIfInBounds_toArray, List.set_cons_zero, List.set_cons_succ]
    refine wpAnyH_ready (rs := [12]) (by kernel_rfl) (by simp) ?_
    refine AllReadyH.cons (o := ⟨some 25, _, _, _, _, _⟩) rfl (fun K hK => ?_) AllReadyH.nil
    go_simp
    refine hK.out _ _ hHeld (fun hHeld => ?_)
    clear hK K
    try simp only [Act.put, List.setIfInBounds_toArray, List.set_cons_zero, List.set_cons_succ]
    refine wpAnyH_ready (rs := [20]) (by kernel_rfl) (by simp) ?_
    refine AllReadyH.cons (o := ⟨some 33, _, _, _, _, _⟩) rfl (fun K hK => ?_) AllReadyH.nil
    refine step_append_lies _ (by rfl) _ _ _ (by rfl) lo 72 i0 _ 3 24 Try.underlying68 hi hz0 hz1 hz2 rfl (by decide) (.slice A (s.lim a).length c') (s.lim a).length (oldCells (s.lim a)) (by rfl) hrow.out ⟨w.heap.size + 1, 0, none⟩ 1 1 [.int .i64 sl, .int .i64 gn, .int .i64 s.now] (by rfl) (by rfl) (World.news_of_block (cs := #[.int .i64 sl, .int .i64 gn, .int .i64 s.now]) (t := 72) (fr := (0, 0)) hn0) (by simp [Value.oneCell']) (by decide) (by simp only [maxLen]; omega) (by omega) (by omega) _ rfl ?_
    intro g cap w1 hown hgr hat hlt
    have hog := only_grown (S := fun k => (mv a).ownBlock = some k) (Only.refl _ _) hgr (fun k hk => .inl (by rw [HA.out]; exact hk))
    have hc1 := hog.block hcR (fun hk => (H1.out.row_not hk0 hk).2 rfl)
    have hb1 := hog.block H1.out.eb (fun hk => (H1.out.row_not hk0 hk).1 rfl)
    have hr2 := hog.block hr1 (fun hk => absurd (own_type (H1.out.row a hk0) hk hr1) (by decide))
    have zc1 := (cell_of_blk hc1 (a * 2 + 1)).trans (HCR.out a hk0).2
    have fc1 := free_of_blk hc1 (a * 2 + 1)
    have hS1 : moHeld b R n c w.heap.size s sl gn w1 := ⟨cell_of_blk hb1 1, cell_of_blk hb1 0, cell_of_blk hr2 0, cell_of_blk hr2 1⟩
    have hfin := H1.out.set_lim hk0 (l := s.lim a ++ [⟨sl, gn, s.now⟩]) (v := .slice (some ⟨g, 0, none⟩) ((s.lim a).length + 1) cap) (.inr rfl) (by rw [HA.out]; exact hgr) (by rw [oldCells_append, List.length_append]; exact hown) (fun k hk => (by
        injection hk with hk
        change g = k at hk
        subst hk
        rcases hat with h1 | h1
        · exact .inl (by rw [HA.out]; exact h1)
        · exact .inr (fun i hi hk2 => by
            have := Go.Proofs.Ytpklpomajioneaa.own_lt (H1.out.row i hi) hk2
            omega)))
    have hr3 := ((Only.refl (fun k => k = R) w1).setCell ⟨R, a * 2 + 1, none⟩ (.slice (some ⟨g, 0, none⟩) ((s.lim a).length + 1) cap) (.inl rfl)).block hr2 (fun hk => absurd (hk ▸ hr2) (by rw [hc1]; simp))
    refine hK.out _ _ hS1 (fun hHeld => ?_)
    clear hK K
    try simp only [Act.put, List.setIfInBounds_toArray, List.set_cons_zero, List.set_cons_succ]
    refine' wpAnyH_take (i := 21) (oi := ⟨some 34, _, _, _, _, _⟩) (v := ?v201) rfl (by kernel_rfl) (by kernel_rfl) (by kernel_rfl) (fun _ _ _ h => h) (Or.inl ⟨by rfl, ?hy201⟩) hHeld ?rest201
    case hy201 => (intro W hSw; obtain ⟨q1, q2, q3, q4⟩ := hSw; go_simp; first | done | with_reducible rfl)
    simp only [Act.put, List.setIfInBounds_toArray, List.set_cons_zero, List.set_cons_succ]
    refine' wpAnyH_take (i := 22) (oi := ⟨some 35, _, _, _, _, _⟩) (v := ?v202) rfl (by kernel_rfl) (by kernel_rfl) (by kernel_rfl) (fun _ _ _ h => h) (Or.inl ⟨by rfl, ?hy202⟩) hHeld ?rest202
    case hy202 => (intro W hSw; obtain ⟨q1, q2, q3, q4⟩ := hSw; go_simp; first | done | with_reducible rfl)
    simp only [Act.put, List.setIfInBounds_toArray, List.set_cons_zero, List.set_cons_succ]
    refine wpAnyH_ready (rs := [23]) (by kernel_rfl) (by simp) ?_
    refine AllReadyH.cons (o := ⟨none, _, _, _, _, _⟩) rfl (fun K hK => ?_) AllReadyH.nil
    go_simp
    refine hK.out _ _ (moHeld.of hfin.1 rfl hr3) (fun hHeld => ?_)
    clear hK K
    try simp only [Act.put, List.setIfInBounds_toArray, List.set_cons_zero, List.set_cons_succ]
    refine wpAnyH_done (by kernel_rfl) ?_ _
    go_wp2
    go_ret
    exact ⟨rfl, ⟨_, hfin.1⟩, HO1.out.trans hfin.2⟩
def moBlocked (n : Nat) (s : EpS) : Bool := (List.range n).any fun i => s.pin i != -1 && s.pin i != s.now
def advS (n : Nat) (s : EpS) : EpS := { s with now := if moBlocked n s then s.now else s.now + 1 }
theorem advS_yes {n : Nat} {s : EpS} (h : moBlocked n s = true) : advS n s = s := by simp [advS, h]
theorem advS_no {n : Nat} {s : EpS} (h : moBlocked n s = false) : advS n s = { s with now := s.now + 1 } := by simp [advS, h]
set_option maxHeartbeats 4000000 in
theorem mo_advance {w : World} {lo b R n c : Nat} {s : EpS} {mv : Nat → Value} (h : MoAt w lo b R n c s mv) (hp : PinOk n s) (hn : s.now ≤ 1000000) :
    Calls Try.prog 26 #[.pointer (some ⟨b, 0, none⟩)] w fun e w' => e = .returned (.bool (!moBlocked n s)) ∧ MoAt w' lo b R n c (advS n s) mv ∧ Only (MoOwn b R n mv) w w' := by
  have H := Lib.hid h
  clear h
  go_enter Try.func26, Try.ntmps26
  go_wp2_with fail
  go_loopw [3] (fun i wr => ∃ I : Nat, I ≤ n ∧ i = .int .i64 I ∧ (∀ j, j < I → (s.pin j != -1 && s.pin j != (s.now : Int)) = false) ∧ ∃ q, wr = w.drewN q) (fun i _ => n - (intOf i).toNat)
  case atStart => exact ⟨0, Nat.zero_le _, rfl, fun j hj => absurd hj (Nat.not_lt_zero _), 0, rfl⟩
  case round =>
    obtain ⟨I, hI, rfl, hno, q, rfl⟩ := hrel
    have c0 : (w.drewN q).cell? ⟨b, 0, none⟩ = _ := H.out.c0
    have c1 : (w.drewN q).cell? ⟨b, 1, none⟩ = _ := H.out.c1
    have n16 := H.out.n16
    have c0w := H.out.c0
    have c1w := H.out.c1
    have f0 : (w.drewN q).frozen? ⟨b, 0, none⟩ = _ := H.out.f0 0
    have HN := Lib.hid hno
    clear hno
    by_cases hlt : I < n
    · have cp : (w.drewN q).cell? ⟨R, I * 2, none⟩ = _ := H.out.cp hlt
      have cpw := H.out.cp hlt
      have il : (I : Int) < n := by omega
      by_cases hp1 : s.pin I = -1
      · rw [hp1] at cp cpw
        have HP := Lib.hid hp1
        clear hp1
        go_wp2_with fail
        go_quiet (fail)
        go_wp2_with fail
        go_roundw
        case rel => exact ⟨I + 1, by omega, by simp, fun j hj => by
          by_cases h : j < I
          · exact HN.out j h
          · obtain rfl : j = I := by omega
            rw [HP.out]
            rfl, _, rfl⟩
        case measure => simp [intOf]; omega
      · have hge : 0 ≤ s.pin I := by rcases hp I with h | h <;> omega
        by_cases hp2 : s.pin I = s.now
        · rw [hp2] at cp cpw
          have HP := Lib.hid hp2
          clear hp2 hp1 hge
          go_wp2_with fail
          go_quiet (fail)
          go_wp2_with fail
          go_roundw
          case rel => exact ⟨I + 1, by omega, by simp, fun j hj => by
            by_cases h : j < I
            · exact HN.out j h
            · obtain rfl : j = I := by omega
              rw [HP.out]
              simp, _, rfl⟩
          case measure => simp [intOf]; omega
        · have hB : moBlocked n s = true := List.any_eq_true.2 ⟨I, List.mem_range.2 hlt, by simp [hp1, hp2]⟩
          have d1 : (s.pin I != (s.now : Int)) = true := by simpa using hp2
          have HB := Lib.hid hB
          clear hp1 hp2 hB
          go_wp2_with fail
          go_quiet (fail)
          go_wp2_with fail
          go_ret
          rw [HB.out, advS_yes HB.out]
          exact ⟨rfl, H.out.below0 (bl_drewN (bl_drewN (Below.refl _ _) _) _), ((Only.refl _ w).drewN _).drewN _⟩
    · obtain rfl : I = n := by omega
      have il : ¬ (I : Int) < I := by omega
      have hB : moBlocked I s = false := by
        unfold moBlocked
        rw [List.any_eq_false]
        intro i hi
        rw [HN.out i (List.mem_range.1 hi)]
        decide
      have s1 : IntKind.i64.wrap ((s.now : Int) + 1) = ((s.now + 1 : Nat) : Int) := (IntWalk.i64_in _ (by omega)).trans (by omega)
      have HB := Lib.hid hB
      clear hB
      go_wp2_with fail
      go_ret
      rw [HB.out, advS_no HB.out]
      have := (H.out.below0 (bl_drewN (Below.refl _ w) q)).set_now (s.now + 1)
      exact ⟨rfl, by simpa using this, ((Only.refl _ w).drewN q).setCell _ _ (.inl (.inl rfl))⟩
end Go.Proofs.Ytpklpomajioneaa
