/- Chapter 12: EpochSafe. -/
import Derived.Test.YtpklpomajioneaaSafePure
namespace Go.Proofs.Ytpklpomajioneaa
open Go.RowKit
set_option linter.unusedVariables false
set_option linter.unusedSimpArgs false

theorem EpAt.lo {w : World} {lo lo' b n : Nat} {s : EpS} {lv : Nat → Value} (h : EpAt w lo b n s lv) (hl : lo' ≤ lo) : EpAt w lo' b n s lv :=
  ⟨h.blk, Nat.le_trans hl h.lob, h.n1, h.n16, fun i hi => ownsRow_base (h.row i hi) hl, h.apart⟩
/-- A block of another type is none of the epochs'. -/
theorem EpAt.not_own {w : World} {lo b n : Nat} {s : EpS} {lv : Nat → Value} (h : EpAt w lo b n s lv) {k : Nat} {cs : Array Value} {t : TypeId} {fr : Nat × Nat} (hk : w.heap[k]? = some (.cells cs t fr)) (h1 : t ≠ 62) (h2 : t ≠ 64) : ¬ EpOwn b lv k := by
  rintro (rfl | ⟨i, hi, ho⟩)
  · have := h.blk
    rw [hk] at this
    injection this with this
    injection this with _ h3 _
    exact h1 h3
  · exact h2 (own_type (h.row i hi) ho hk)
theorem own_type' {w : World} {lo : Nat} {e : TypeId} {size : Nat} {v : Value} {n : Nat} {xs : List Value} (h : w.ownsRow lo e size v n xs) {k : Nat} (hk : v.ownBlock = some k) : ∃ cs, w.heap[k]? = some (.cells cs e (0, 0)) := by
  rcases h.2 with ⟨rfl, _⟩ | ⟨g, cap, cur, rfl, _, hg, _⟩
  · cases hk
  · injection hk with hk
    subst hk
    exact ⟨_, hg⟩
def pnCells (pn : Nat → Nat) : List Value := (List.range 5).map fun i => Value.int .i64 (pn i)
theorem pnCells_at (pn : Nat → Nat) {i : Nat} (hi : i < 5) : (pnCells pn)[i]? = some (.int .i64 (pn i)) := by simp [pnCells, hi]
theorem pnCells_set (pn : Nat → Nat) (a m : Nat) : (pnCells pn).set a (.int .i64 m) = pnCells (upd pn a m) := by
  unfold pnCells
  rw [range_set]
  have : (upd (fun i => Value.int .i64 (pn i)) a (.int .i64 m)) = (fun i => Value.int .i64 (((upd pn a m) i : Nat) : Int)) := by
    funext i
    unfold upd
    split <;> rfl
  rw [this]
def HV.cells (h : HV) : List Value := [.int .i64 h.slot, .int .i64 0] ++ pnCells h.pins
def heldCells (H : List HV) : List Value := H.flatMap HV.cells
theorem HV.cells_length (h : HV) : h.cells.length = 7 := by simp [HV.cells, pnCells]
theorem heldCells_length (H : List HV) : (heldCells H).length = H.length * 7 := by
  induction H with
  | nil => rfl
  | cons c cs ih => simp only [heldCells, List.flatMap_cons, List.length_append, HV.cells_length, List.length_cons] at *; omega
theorem heldCells_at (es : List HV) : ∀ i h, es[i]? = some h → ∀ j, j < 7 → (heldCells es)[i * 7 + j]? = h.cells[j]? := by
  induction es with
  | nil => intro i h hi; simp at hi
  | cons c cs ih =>
    intro i h hi j hj
    have hl := c.cells_length
    cases i with
    | zero =>
      simp at hi
      subst hi
      simp only [heldCells, List.flatMap_cons, Nat.zero_mul, Nat.zero_add]
      rw [List.getElem?_append_left (by omega)]
    | succ i =>
      have := ih i h (by simpa using hi) j hj
      simp only [heldCells, List.flatMap_cons] at this ⊢
      rw [List.getElem?_append_right (by omega), hl, show (i + 1) * 7 + j - 7 = i * 7 + j by omega]
      exact this
theorem infoHeld : (Try.prog.info? 35).map (fun i => (i.zero, i.size, i.bytes)) = some (some (.agg #[.int .i64 0, .int .i64 0, .int .i64 0, .int .i64 0, .int .i64 0, .int .i64 0, .int .i64 0]), 7, 56) := by kernel_rfl
/-- What the law has in memory. -/
structure SafeW (w wr : World) (b P n : Nat) (s : EpS) (lv : Nat → Value) (H : List HV) (pn : Nat → Nat) (hv : Value) : Prop where
  ep : EpAt wr w.heap.size b n s lv
  pb : wr.heap[P]? = some (.cells (pnCells pn).toArray 28 (0, 0))
  pl : w.heap.size ≤ P
  hr : wr.ownsRow w.heap.size 35 7 hv H.length (heldCells H)
  bel : Below w.heap.size w wr
theorem SafeW.step {w wr w2 : World} {b P n : Nat} {s s' : EpS} {lv lv' : Nat → Value} {H : List HV} {pn : Nat → Nat} {hv : Value} (h : SafeW w wr b P n s lv H pn hv) (he : EpAt w2 w.heap.size b n s' lv') (ho : Only (EpOwn b lv) wr w2) : SafeW w w2 b P n s' lv' H pn hv :=
  ⟨he, ho.block h.pb (h.ep.not_own h.pb (by decide) (by decide)), h.pl, ownsRow_kept h.hr ho (fun k hk hk2 => by
    obtain ⟨cs, hc⟩ := own_type' h.hr hk2
    exact h.ep.not_own hc (by decide) (by decide) hk), bl_only h.bel ho (fun k hk => h.ep.own_lo hk)⟩
theorem SafeW.below {w wr w2 : World} {b P n : Nat} {s : EpS} {lv : Nat → Value} {H : List HV} {pn : Nat → Nat} {hv : Value} (h : SafeW w wr b P n s lv H pn hv) (hb : Below wr.heap.size wr w2) : SafeW w w2 b P n s lv H pn hv :=
  h.step (h.ep.below0 hb) (Only.of_below hb)
theorem SafeW.set {w wr : World} {b P n : Nat} {s : EpS} {lv : Nat → Value} {H : List HV} {pn : Nat → Nat} {hv : Value} (h : SafeW w wr b P n s lv H pn hv) (a m : Nat) : SafeW w (wr.setCell ⟨P, a, none⟩ (.int .i64 m)) b P n s lv H (upd pn a m) hv := by
  have ho : Only (fun k => k = P) wr (wr.setCell ⟨P, a, none⟩ (.int .i64 m)) := (Only.refl (fun k => k = P) wr).setCell _ _ (.inl rfl)
  have hs := setCell_same h.pb (i := a) (.int .i64 m)
  rw [pnCells_set] at hs
  refine ⟨h.ep.kept ho (by rintro k rfl; exact h.ep.not_own h.pb (by decide) (by decide)), hs, h.pl, ownsRow_kept h.hr ho ?_, bl_only h.bel ho (by rintro k rfl; exact h.pl)⟩
  rintro k rfl hk
  exact absurd (own_type h.hr hk h.pb) (by decide)

theorem heldCells_append (a b : List HV) : heldCells (a ++ b) = heldCells a ++ heldCells b := by simp [heldCells]
/-- One more is held. -/
theorem SafeW.push {w wr w1 w2 : World} {b P n : Nat} {s : EpS} {lv : Nat → Value} {H : List HV} {pn : Nat → Nat} {Ah : Option Addr} {ch : Nat} (h : SafeW w wr b P n s lv H pn (.slice Ah H.length ch)) (hb : Below wr.heap.size wr w1) {x : HV} {v : Value} (hown : w2.ownsRow w.heap.size 35 7 v (H.length + 1) (heldCells H ++ x.cells)) (hgr : w1.grownBy w2 (Value.slice Ah H.length ch).ownBlock) : SafeW w w2 b P n s lv (H ++ [x]) pn v := by
  have h1 := h.below hb
  have ho : Only (fun k => (Value.slice Ah H.length ch).ownBlock = some k) w1 w2 := only_grown (Only.refl _ w1) hgr (fun k hk => .inl hk)
  refine ⟨h1.ep.kept ho (fun k hk => ?_), ho.block h1.pb (fun hk => absurd (own_type h1.hr hk h1.pb) (by decide)), h1.pl, ?_, bl_only h1.bel ho (fun k hk => own_block h1.hr hk)⟩
  · obtain ⟨cs, hc⟩ := own_type' h1.hr hk
    exact h1.ep.not_own hc (by decide) (by decide)
  · rw [List.length_append, List.length_singleton, heldCells_append]
    have he : heldCells [x] = x.cells := by simp [heldCells]
    rw [he]
    exact hown
theorem odd_yes {pn : Nat → Nat} {K : Nat} (h : pn K % 2 = 1) : upd (oddOf pn K) K (pn K) = oddOf pn (K + 1) := by
  funext i
  unfold upd oddOf
  by_cases hi : i = K
  · subst hi
    rw [if_pos rfl, if_pos ⟨by omega, h⟩]
  · rw [if_neg hi]
    by_cases hc : i < K ∧ pn i % 2 = 1
    · rw [if_pos hc, if_pos ⟨by omega, hc.2⟩]
    · rw [if_neg hc, if_neg (fun hd => hc ⟨by omega, hd.2⟩)]
theorem odd_no {pn : Nat → Nat} {K : Nat} (h : ¬ pn K % 2 = 1) : oddOf pn K = oddOf pn (K + 1) := by
  funext i
  unfold oddOf
  by_cases hc : i < K ∧ pn i % 2 = 1
  · rw [if_pos hc, if_pos ⟨by omega, hc.2⟩]
  · rw [if_neg hc, if_neg]
    rintro ⟨h1, h2⟩
    by_cases hi : i = K
    · subst hi; exact h h2
    · exact hc ⟨by omega, h2⟩
theorem HV.cells_set (a b : Nat) (f : Nat → Nat) (K m : Nat) : (HV.cells ⟨a, b, f⟩).set (2 + K) (.int .i64 m) = HV.cells ⟨a, b, upd f K m⟩ := by
  unfold HV.cells
  rw [show 2 + K = K + 1 + 1 by omega]
  simp only [List.cons_append, List.nil_append, List.set_cons_succ, pnCells_set]
theorem HV.cells_pin (h : HV) {K : Nat} (hK : K < 5) : h.cells[2 + K]? = some (.int .i64 (h.pins K)) := by
  unfold HV.cells
  rw [show 2 + K = K + 1 + 1 by omega]
  simp only [List.cons_append, List.nil_append, List.getElem?_cons_succ]
  exact pnCells_at _ hK

set_option maxHeartbeats 8000000 in
set_option maxRecDepth 100000 in
theorem safe_law (actors : Int) (A : Option Addr) (N cap : Nat) (l : List (Int × Int × Int)) (w : World) (ha : -9223372036854775808 ≤ actors ∧ actors ≤ 9223372036854775807) (hrow : RowAt (kPair (kInt .i64) (kPair (kInt .i64) (kInt .i64))) 24 w A N l) :
    Calls Try.prog 3 #[.int .i64 actors, .slice A N cap] w fun e w' => e = .returned (.bool true) ∧ Below w.heap.size w w' := by
  obtain ⟨n, hn⟩ : ∃ n : Nat, 1 + actors % 5 = (n : Int) := ⟨(1 + actors % 5).toNat, by omega⟩
  have n1 : 1 ≤ n := by omega
  have n5 : n ≤ 5 := by omega
  have hx := hrow.acts
  have hlen := hx.small
  have HX := Lib.hid hx
  have HNN := Lib.hid hn
  clear hrow hx hn
  go_enter Try.func3, Try.ntmps3
  go_wp2_with fail
  refine (awake_any _).mono ?_
  rintro e w1 ⟨rfl, b1⟩
  go_wp2_with fail
  refine (rest_any actors 5 _ (by decide) (by decide)).mono ?_
  rintro e w2 ⟨rfl, rfl⟩
  go_wp2_with fail
  simp only [HNN.out]
  refine (new_any n _ n1 (by omega)).mono ?_
  rintro e w2 ⟨rfl, h2, b2⟩
  have hW : SafeW w (w2.alloc (.cells #[.int .i64 0, .int .i64 0, .int .i64 0, .int .i64 0, .int .i64 0] 28)) w1.heap.size w2.heap.size n EpS.zero (fun _ => .slice none 0 0) [] (fun _ => 0) (.slice none 0 0) :=
    ⟨(h2.lo b1.size).below0 (bl_alloc (Below.refl _ _) _), alloc_new w2 _, Nat.le_trans b1.size b2.size, ⟨rfl, .inl ⟨rfl, rfl⟩⟩, bl_alloc (bl_then b1 b2) _⟩
  have HW := Lib.hid hW
  clear hW h2 b2 b1
  go_wp2_with fail
  generalize w2.alloc _ = w3 at *
  generalize w1.heap.size = b at *
  generalize w2.heap.size = P at *
  go_loopw [8, 10] (fun hv i wr => ∃ (I : Nat) (s : EpS) (lv : Nat → Value) (H : List HV) (pn : Nat → Nat), I ≤ N ∧ I ≤ 60 ∧ i = .int .i64 I ∧ SafeW w wr b P n s lv H pn hv ∧ SafeInv n I s H pn) (fun _ i _ => N - (intOf i).toNat)
  case atStart => exact ⟨0, EpS.zero, _, [], _, Nat.zero_le _, by omega, rfl, HW.out, SafeInv.start n⟩
  case round =>
    obtain ⟨I, s, lv, H, pn, hI, hI2, rfl, hW, hInv⟩ := hrel
    clear HW
    obtain ⟨Ah, ch, rfl⟩ := own_form hW.hr
    by_cases h1 : I < N ∧ I < 60
    · obtain ⟨h1, h2⟩ := h1
      obtain ⟨bs, off, k, at_, x, rfl, hli, ⟨hk, ht, hx⟩, hc⟩ := HX.out.at_ h1
      obtain ⟨c0, c1, c2⟩ := hc _ hW.bel
      have HC := Lib.hid hc
      have HW := Lib.hid hW
      have HI := Lib.hid hInv
      clear hli hc hW hInv
      go_wp2_with fail
      refine (rest_any at_ n _ (by omega) (by omega)).mono ?_
      rintro e w4 ⟨rfl, rfl⟩
      obtain ⟨a, ha⟩ : ∃ a : Nat, at_ % (n : Int) = a := ⟨(at_ % n).toNat, by have := Int.emod_nonneg at_ (show (n : Int) ≠ 0 by omega); omega⟩
      have han : a < n := by have := Int.emod_lt_of_pos at_ (show (0 : Int) < n by omega); omega
      simp only [ha]
      clear ha
      have d60 : decide ((I : Int) < 60) = true := decide_eq_true (by omega)
      have hW4 := HW.out.below (bl_alloc (Below.refl _ wr) (.cells #[.int .i64 k, .int .i64 at_, .int .i64 x] 30))
      go_wp2_with fail
      refine (rest_any k 6 _ (by decide) (by decide)).mono ?_
      rintro e w4 ⟨rfl, rfl⟩
      obtain ⟨K, hK⟩ : ∃ K, k % 6 = K := ⟨_, rfl⟩
      have hK0 : 0 ≤ K := by omega
      have hK6 : K < 6 := by omega
      simp only [hK]
      generalize wr.alloc (.cells #[.int .i64 k, .int .i64 at_, .int .i64 x] 30) = w4 at *
      clear hK c0 c1 c2 HW
      have hnow := HI.out.nw
      have hlm := HI.out.lm a
      by_cases q0 : K = 0
      · subst q0
        go_wp2_with fail
        by_cases hp : s.pin a = -1
        · refine (pin_yes hW4.ep han hp).mono ?_
          rintro e w5 ⟨rfl, h5, o5⟩
          have hW5 := hW4.step h5 (o5.mono (fun k hk => .inl hk))
          have p5 := (cell_of_blk hW5.pb a).trans (pnCells_at pn (by omega))
          have f5 := free_of_blk hW5.pb a
          have s1 : IntKind.i64.wrap ((pn a : Int) + 1) = ((pn a + 1 : Nat) : Int) := (IntWalk.i64_in _ (by have := HI.out.sm a; omega)).trans (by omega)
          have ia : (a : Int) < 5 := by omega
          have HW5 := Lib.hid hW5
          clear hW5 hW4 h5 o5
          go_wp2_with fail
          go_roundw
          case rel => exact ⟨I + 1, _, lv, H, _, by omega, by omega, by simp, HW5.out.set a (pn a + 1), HI.out.pin han hp⟩
          case measure => simp [intOf]; omega
        · refine (pin_no hW4.ep han hp).mono ?_
          rintro e w5 ⟨rfl, rfl⟩
          go_wp2_with fail
          go_roundw
          case rel => exact ⟨I + 1, s, lv, H, pn, by omega, by omega, by simp, hW4, HI.out.later⟩
          case measure => simp [intOf]; omega
      by_cases q1 : K = 1
      · subst q1
        go_wp2_with fail
        by_cases hp : s.pin a ≠ -1
        · refine (unpin_yes hW4.ep han hp).mono ?_
          rintro e w5 ⟨rfl, h5, o5⟩
          have hW5 := hW4.step h5 (o5.mono (fun k hk => .inl hk))
          have p5 := (cell_of_blk hW5.pb a).trans (pnCells_at pn (by omega))
          have f5 := free_of_blk hW5.pb a
          have s1 : IntKind.i64.wrap ((pn a : Int) + 1) = ((pn a + 1 : Nat) : Int) := (IntWalk.i64_in _ (by have := HI.out.sm a; omega)).trans (by omega)
          have ia : (a : Int) < 5 := by omega
          have HW5 := Lib.hid hW5
          clear hW5 hW4 h5 o5
          go_wp2_with fail
          go_roundw
          case rel => exact ⟨I + 1, _, lv, H, _, by omega, by omega, by simp, HW5.out.set a (pn a + 1), HI.out.unpin han hp⟩
          case measure => simp [intOf]; omega
        · refine (unpin_no hW4.ep han (Decidable.not_not.1 hp)).mono ?_
          rintro e w5 ⟨rfl, rfl⟩
          go_wp2_with fail
          go_roundw
          case rel => exact ⟨I + 1, s, lv, H, pn, by omega, by omega, by simp, hW4, HI.out.later⟩
          case measure => simp [intOf]; omega
      by_cases q2 : K = 2
      · subst q2
        go_wp2_with fail
        go_loopw [14] (fun k wr => ∃ K : Nat, K ≤ n ∧ k = .int .i64 K ∧ Below w4.heap.size w4 wr ∧ wr.heap[w4.heap.size]? = some (.cells (HV.cells ⟨I, s.now, oddOf pn K⟩).toArray 35 (0, 0))) (fun k _ => n - (intOf k).toNat)
        case atStart => exact ⟨0, Nat.zero_le _, rfl, bl_alloc (Below.refl _ _) _, alloc_new w4 _⟩
        case round =>
          obtain ⟨K, hK, rfl, hbK, hHB⟩ := hrel
          by_cases g1 : K < n
          · have p5 := (hbK.cell (p := ⟨P, K, none⟩) (block_lt hW4.pb)).trans ((cell_of_blk hW4.pb K).trans (pnCells_at pn (by omega)))
            have h5 := (cell_of_blk hHB (2 + K)).trans (HV.cells_pin _ (by omega))
            have f5 := free_of_blk hHB (2 + K)
            have hs := setCell_same hHB (i := 2 + K) (.int .i64 (pn K))
            rw [HV.cells_set] at hs
            have e1 : (pn K : Int).tmod 2 = (pn K : Int) % 2 := Int.tmod_eq_emod_of_nonneg (by omega)
            have i5 : (K : Int) < 5 := by omega
            have HS := Lib.hid hs
            have HHB := Lib.hid hHB
            clear hs hHB
            by_cases g2 : pn K % 2 = 1
            · have d1 : ((pn K : Int) % 2 == 1) = true := by simp; omega
              have d2 : ((pn K : Int).tmod 2 == 1) = true := by rw [e1]; exact d1
              clear e1
              go_wp2_with fail
              go_roundw
              case rel => exact ⟨K + 1, by omega, by simp, bl_set hbK _ _ (Nat.le_refl _), by rw [← odd_yes g2]; exact HS.out⟩
              case measure => simp [intOf]; omega
            · have d1 : ((pn K : Int) % 2 == 1) = false := by simp; omega
              have d2 : ((pn K : Int).tmod 2 == 1) = false := by rw [e1]; exact d1
              clear e1
              go_wp2_with fail
              go_roundw
              case rel => exact ⟨K + 1, by omega, by simp, hbK, by rw [← odd_no g2]; exact HHB.out⟩
              case measure => simp [intOf]; omega
          · obtain rfl : K = n := by omega
            have hW5 := hW4.below hbK
            have r0 : wr.cell? ⟨w4.heap.size, 0, none⟩ = some (.int .i64 I) := cell_of_blk hHB 0
            have r1 : wr.cell? ⟨w4.heap.size, 1, none⟩ = some (.int .i64 0) := cell_of_blk hHB 1
            have HHB := Lib.hid hHB
            have HW5 := Lib.hid hW5
            clear g1 hHB hW5 hW4
            go_wp2_with fail
            refine (retire_any HW5.out.ep han (I : Int) 0 HW5.out.bel.size (by omega)).mono ?_
            rintro e w6 ⟨rfl, v6, h6, o6, n6⟩
            have hW6 := HW5.out.step h6 o6
            have hH6 := o6.block HHB.out (HW5.out.ep.not_own HHB.out (by decide) (by decide))
            have t0 : w6.cell? ⟨w4.heap.size, 0, none⟩ = some (.int .i64 I) := cell_of_blk hH6 0
            have t1 : w6.cell? ⟨w4.heap.size, 1, none⟩ = some (.int .i64 0) := cell_of_blk hH6 1
            have t2 := (cell_of_blk hH6 (2 + 0)).trans (HV.cells_pin _ (by omega))
            have t3 := (cell_of_blk hH6 (2 + 1)).trans (HV.cells_pin _ (by omega))
            have t4 := (cell_of_blk hH6 (2 + 2)).trans (HV.cells_pin _ (by omega))
            have t5 := (cell_of_blk hH6 (2 + 3)).trans (HV.cells_pin _ (by omega))
            have t6 := (cell_of_blk hH6 (2 + 4)).trans (HV.cells_pin _ (by omega))
            simp only [Nat.reduceAdd, Nat.add_zero] at t2 t3 t4 t5 t6
            have HW6 := Lib.hid hW6
            obtain ⟨i0, hi, hz0, hz1, hz2⟩ := info_parts infoHeld
            have hb7 := bl_alloc (Below.refl _ w6) (.cells #[.int .i64 I, .int .i64 0, .int .i64 (oddOf pn K 0), .int .i64 (oddOf pn K 1), .int .i64 (oddOf pn K 2), .int .i64 (oddOf pn K 3), .int .i64 (oddOf pn K 4)] 35)
            have hr7 := HW6.out.hr.alloc (.cells #[.int .i64 I, .int .i64 0, .int .i64 (oddOf pn K 0), .int .i64 (oddOf pn K 1), .int .i64 (oddOf pn K 2), .int .i64 (oddOf pn K 3), .int .i64 (oddOf pn K 4)] 35)
            have hn7 := World.news_of_block (cs := #[.int .i64 I, .int .i64 0, .int .i64 (oddOf pn K 0), .int .i64 (oddOf pn K 1), .int .i64 (oddOf pn K 2), .int .i64 (oddOf pn K 3), .int .i64 (oddOf pn K 4)]) (t := 35) (fr := (0, 0)) (alloc_new w6 _)
            have hz7 : w.heap.size ≤ (w6.alloc (.cells #[.int .i64 I, .int .i64 0, .int .i64 (oddOf pn K 0), .int .i64 (oddOf pn K 1), .int .i64 (oddOf pn K 2), .int .i64 (oddOf pn K 3), .int .i64 (oddOf pn K 4)] 35)).heap.size := Nat.le_trans HW6.out.bel.size hb7.size
            have hhl := HI.out.hl
            clear hW6 h6 o6 n6 hH6 HHB
            go_wp2_with (at_builtin; refine wpList_append_own _ rfl (.tmp 96) (.tmp 98) 27 rfl w.heap.size 35 i0 _ 7 56 Try.underlying27 hi hz0 hz1 hz2 rfl (by decide) (.slice Ah H.length ch) H.length (heldCells H) rfl hr7 ⟨w6.heap.size, 0, none⟩ 1 1 [.int .i64 I, .int .i64 0, .int .i64 (oddOf pn K 0), .int .i64 (oddOf pn K 1), .int .i64 (oddOf pn K 2), .int .i64 (oddOf pn K 3), .int .i64 (oddOf pn K 4)] rfl rfl hn7 (by simp [Value.oneCell']) (by simp only [maxLen]; omega) (by omega) hz7 ?_; intro v w8 hown8 hgr8 _)
            go_roundw
            case rel => exact ⟨I + 1, _, _, H ++ [⟨I, s.now, oddOf pn K⟩], pn, by omega, by omega, by simp, HW6.out.push hb7 (x := ⟨I, s.now, oddOf pn K⟩) hown8 hgr8, HI.out.retire a⟩
            case measure => simp [intOf]; omega
      by_cases q5 : K = 5
      · subst q5
        go_wp2_with fail
        refine (ripe_any hW4.ep han (by omega) (by omega)).mono ?_
        rintro e w5 ⟨A5, c5, v5, rfl, own5, h5, o5, n5'⟩
        have hW5 := hW4.step h5 o5
        have hrefs := RefsAt.of_own own5
        have hsafe : ∀ r ∈ toldOf s.now (s.lim a), ∀ x ∈ H, (x.slot : Int) = r.slot → ∀ p, p < n → ¬ (0 < x.pins p ∧ x.pins p = pn p) := fun r hr x hx he p hp => HI.out.safe hr hx he hp
        have hTl : (toldOf s.now (s.lim a)).length ≤ 60 := Nat.le_trans (told_length _ _) (by omega)
        have hHl : H.length ≤ 60 := Nat.le_trans HI.out.hl (by omega)
        generalize toldOf s.now (s.lim a) = T at *
        have HSF := Lib.hid hsafe
        have HRF := Lib.hid hrefs
        have HW5 := Lib.hid hW5
        have HI5 := Lib.hid (HI.out.ripe a s.now)
        clear hsafe hrefs hW5 own5 h5 o5 n5' hW4
        have pb5 := fun p (hp : p < 5) => (cell_of_blk HW5.out.pb p).trans (pnCells_at pn hp)
        have PB5 := Lib.hid pb5
        clear pb5
        go_wp2_with fail
        go_loopw [16] (fun j wr => ∃ J q : Nat, J ≤ T.length ∧ j = .int .i64 J ∧ wr = w5.drewN q) (fun j _ => T.length - (intOf j).toNat)
        case atStart => exact ⟨0, 0, Nat.zero_le _, rfl, rfl⟩
        case round =>
          obtain ⟨J, qj, hJ, rfl, rfl⟩ := hrel
          by_cases g1 : J < T.length
          · obtain ⟨g5, rfl, _, hc5⟩ := HRF.out.cells (by omega)
            obtain ⟨r, hr, x0, x1⟩ := hc5 J g1
            have HRM := Lib.hid (List.mem_of_getElem? hr)
            clear hc5 hr
            go_wp2_with fail
            go_loopw [17] (fun k wr => ∃ K q : Nat, K ≤ H.length ∧ k = .int .i64 K ∧ wr = w5.drewN q) (fun k _ => H.length - (intOf k).toNat)
            case atStart => exact ⟨0, qj, Nat.zero_le _, rfl, rfl⟩
            case round =>
              obtain ⟨K, qk, hK, rfl, rfl⟩ := hrel
              by_cases g2 : K < H.length
              · obtain ⟨h, hh⟩ : ∃ h, H[K]? = some h := ⟨_, List.getElem?_eq_getElem g2⟩
                have HHM := Lib.hid (List.mem_of_getElem? hh)
                obtain ⟨gh, rfl, _, _, _, hch⟩ := own_some HW5.out.hr (by omega)
                have y0 : w5.cell? ⟨gh, K * 7, none⟩ = some (.int .i64 h.slot) := hch (K * 7) _ (by have := heldCells_at H K h hh 0 (by omega); rw [Nat.add_zero] at this; rw [this]; rfl)
                have y1 : w5.cell? ⟨gh, K * 7 + 1, none⟩ = some (.int .i64 0) := hch (K * 7 + 1) _ (by rw [heldCells_at H K h hh 1 (by omega)]; rfl)
                have yp : ∀ p, p < 5 → w5.cell? ⟨gh, K * 7 + 2 + p, none⟩ = some (.int .i64 (h.pins p)) := fun p hp => hch _ _ (by rw [Nat.add_assoc, heldCells_at H K h hh (2 + p) (by omega)]; exact HV.cells_pin h hp)
                have YP := Lib.hid yp
                clear hch hh yp
                go_wp2_with fail
                go_loopw [18] (fun p wr => ∃ p' q : Nat, p' ≤ n ∧ p = .int .i64 p' ∧ wr = w5.drewN q) (fun p _ => n - (intOf p).toNat)
                case atStart => exact ⟨0, qk, Nat.zero_le _, rfl, rfl⟩
                case round =>
                  obtain ⟨p, qp, hp, rfl, rfl⟩ := hrel
                  by_cases g3 : p < n
                  · have z1 := YP.out p (by omega)
                    have z2 := PB5.out p (by omega)
                    have ip : (p : Int) < 5 := by omega
                    have z0 : w5.cell? ⟨gh, K * 7 + (2 + p), none⟩ = some (.int .i64 (h.pins p)) := by rw [← Nat.add_assoc]; exact z1
                    by_cases g4 : (h.slot : Int) = r.slot ∧ (0 : Int) = r.gen
                    · have hsf := HSF.out r HRM.out h HHM.out g4.1 p g3
                      obtain ⟨e1, e2⟩ := g4
                      rw [← e1] at x0
                      rw [← e2] at x1
                      clear e1 e2
                      rcases Nat.eq_zero_or_pos (h.pins p) with hp0 | hp0
                      · have d7 : decide ((0 : Int) < (h.pins p : Int)) = false := decide_eq_false (by omega)
                        have d8 : decide ((h.pins p : Int) > 0) = false := decide_eq_false (by omega)
                        go_wp2_with fail
                        go_quiet (fail)
                        go_wp2_with fail
                        go_quiet (fail)
                        go_wp2_with fail
                        go_roundw
                        case rel => exact ⟨p + 1, _, by omega, by simp, rfl⟩
                        case measure => simp [intOf]; omega
                      · have hne : h.pins p ≠ pn p := fun he => hsf ⟨hp0, he⟩
                        have d7 : decide ((0 : Int) < (h.pins p : Int)) = true := decide_eq_true (by omega)
                        have d8 : decide ((h.pins p : Int) > 0) = true := decide_eq_true (by omega)
                        have d9 : ((h.pins p : Int) == (pn p : Int)) = false := beq_eq_false_iff_ne.2 (fun he => hne (by omega))
                        go_wp2_with fail
                        go_quiet (fail)
                        go_wp2_with fail
                        go_quiet (fail)
                        go_wp2_with fail
                        go_roundw
                        case rel => exact ⟨p + 1, _, by omega, by simp, rfl⟩
                        case measure => simp [intOf]; omega
                    · by_cases g6 : (h.slot : Int) = r.slot
                      · have g7 : ¬ (0 : Int) = r.gen := fun hg => g4 ⟨g6, hg⟩
                        have d7 : ((0 : Int) == r.gen) = false := by simpa using g7
                        rw [← g6] at x0
                        clear g4 g6 g7
                        go_wp2_with fail
                        go_quiet (fail)
                        go_wp2_with fail
                        go_roundw
                        case rel => exact ⟨K + 1, _, by omega, by simp, rfl⟩
                        case measure => simp [intOf]; omega
                      · have d7 : ((h.slot : Int) == r.slot) = false := by simpa using g6
                        clear g4
                        go_wp2_with fail
                        go_quiet (fail)
                        go_wp2_with fail
                        go_roundw
                        case rel => exact ⟨K + 1, _, by omega, by simp, rfl⟩
                        case measure => simp [intOf]; omega
                  · go_wp2_with fail
                    go_quiet (fail)
                    go_wp2_with fail
                    go_roundw
                    case rel => exact ⟨K + 1, _, by omega, by simp, rfl⟩
                    case measure => simp [intOf]; omega
              · go_wp2_with fail
                go_roundw
                case rel => exact ⟨J + 1, _, by omega, by simp, rfl⟩
                case measure => simp [intOf]; omega
          · go_wp2_with fail
            go_roundw
            case rel => exact ⟨I + 1, _, _, H, pn, by omega, by omega, by simp, HW5.out.below (bl_drewN (Below.refl _ _) _), HI5.out.later⟩
            case measure => simp [intOf]; omega
      · go_wp2_with fail
        cases hb : s.blocked
        · refine (advance_yes hW4.ep (by omega) hb).mono ?_
          rintro e w5 ⟨rfl, h5, o5⟩
          have hW5 := hW4.step h5 (o5.mono (fun k hk => .inl hk))
          go_wp2_with fail
          go_roundw
          case rel => exact ⟨I + 1, _, lv, H, pn, by omega, by omega, by simp, hW5, HI.out.advance (by omega) hb⟩
          case measure => simp [intOf]; omega
        · refine (advance_no hW4.ep (by omega) hb).mono ?_
          rintro e w5 ⟨rfl, b5⟩
          have hW5 := hW4.below b5
          go_wp2_with fail
          go_roundw
          case rel => exact ⟨I + 1, s, lv, H, pn, by omega, by omega, by simp, hW5, HI.out.later⟩
          case measure => simp [intOf]; omega
    · have hcase : (N : Int) ≤ I ∨ (I : Int) < N ∧ (60 : Int) ≤ I := by omega
      have HW := Lib.hid hW
      clear hW hInv h1
      rcases hcase with h1 | ⟨h1, h2⟩
      all_goals
        go_wp2_with fail
        go_ret
        exact ⟨rfl, HW.out.bel⟩
end Go.Proofs.Ytpklpomajioneaa
