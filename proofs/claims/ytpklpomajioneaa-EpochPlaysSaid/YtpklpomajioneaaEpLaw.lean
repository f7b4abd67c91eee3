/- Chapter 12: rest, Same, the example. -/
import Derived.Test.YtpklpomajioneaaRipeM
namespace Go.Proofs.Ytpklpomajioneaa
open Go.RowKit
set_option linter.unusedVariables false
set_option linter.unusedSimpArgs false

theorem rest_eq (x n : Int) : (x.tmod n + n) % n = x % n := by
  rw [Int.add_emod_right, Int.tmod_def, Int.sub_mul_emod_self_left]
theorem rest_any (x n : Int) (w : World) (hn : 0 < n) (h2 : n ≤ 4611686018427387904) :
    Calls Try.prog 10 #[.int .i64 x, .int .i64 n] w fun e w' => e = .returned (.int .i64 (x % n)) ∧ w = w' := by
  have h3 := Int.tmod_lt_of_pos x hn
  have h4 := Int.lt_tmod_of_pos x hn
  have hz : (n == 0) = false := by simp; omega
  rw [← rest_eq]
  go_enter Try.func10, Try.ntmps10
  go_wp2
  go_ret
  exact ⟨rfl, rfl⟩
/-- A row of refs that can be read. -/
structure RefsAt (w : World) (A : Option Addr) (n : Nat) (l : List RefV) : Prop where
  len : l.length = n
  cells : 0 < n → ∃ g, A = some ⟨g, 0, none⟩ ∧ g < w.heap.size ∧ ∀ i, i < n → ∃ r, l[i]? = some r ∧ w.cell? ⟨g, i * 2, none⟩ = some (.int .i64 r.slot) ∧ w.cell? ⟨g, i * 2 + 1, none⟩ = some (.int .i64 r.gen)
theorem refCells_at (es : List RefV) : ∀ i, i < es.length → ∀ j, j < 2 → (refCells es)[i * 2 + j]? = ((es[i]?).getD ⟨0, 0⟩).cells[j]? := by
  induction es with
  | nil => intro i hi; simp at hi
  | cons c cs ih =>
    intro i hi j hj
    have hl : c.cells.length = 2 := rfl
    cases i with
    | zero =>
      simp only [refCells, List.flatMap_cons, Nat.zero_mul, Nat.zero_add]
      rw [List.getElem?_append_left (by omega)]
      rfl
    | succ i =>
      have := ih i (by simpa using hi) j hj
      simp only [refCells, List.flatMap_cons, List.getElem?_cons_succ] at this ⊢
      rw [List.getElem?_append_right (by omega), hl, show (i + 1) * 2 + j - 2 = i * 2 + j by omega]
      exact this
theorem RefsAt.of_own {w : World} {lo : Nat} {A : Option Addr} {n c : Nat} {l : List RefV} (h : w.ownsRow lo 33 2 (.slice A n c) n (refCells l)) : RefsAt w A n l := by
  have hl : l.length = n := by have := h.1; rw [refCells_length] at this; omega
  refine ⟨hl, fun hp => ?_⟩
  obtain ⟨g, rfl, _, _, hg, hc⟩ := own_some h hp
  refine ⟨g, rfl, hg, fun i hi => ?_⟩
  have hli : i < l.length := by omega
  have h0 := refCells_at l i hli 0 (by omega)
  have h1 := refCells_at l i hli 1 (by omega)
  rw [List.getElem?_eq_getElem hli] at h0 h1 ⊢
  exact ⟨_, rfl, hc _ _ h0, hc _ _ h1⟩
theorem RefsAt.below {w w' : World} {A : Option Addr} {n : Nat} {l : List RefV} (h : RefsAt w A n l) (hb : Below w.heap.size w w') : RefsAt w' A n l := by
  refine ⟨h.len, fun hp => ?_⟩
  obtain ⟨g, rfl, hg, hc⟩ := h.cells hp
  refine ⟨g, rfl, Nat.lt_of_lt_of_le hg hb.size, fun i hi => ?_⟩
  obtain ⟨r, h1, h2, h3⟩ := hc i hi
  exact ⟨r, h1, (hb.cell (p := ⟨g, i * 2, none⟩) hg).trans h2, (hb.cell (p := ⟨g, i * 2 + 1, none⟩) hg).trans h3⟩
theorem RefsAt.kept {S : Nat → Prop} {w w' : World} {A : Option Addr} {n : Nat} {l : List RefV} (h : RefsAt w A n l) (k : Only S w w') (hS : ∀ g, A = some ⟨g, 0, none⟩ → ¬ S g) : RefsAt w' A n l := by
  refine ⟨h.len, fun hp => ?_⟩
  obtain ⟨g, rfl, hg, hc⟩ := h.cells hp
  have hk := k.keep g hg (hS g rfl)
  refine ⟨g, rfl, Nat.lt_of_lt_of_le hg k.size, fun i hi => ?_⟩
  obtain ⟨r, h1, h2, h3⟩ := hc i hi
  exact ⟨r, h1, (World.cell?_of_block hk).trans h2, (World.cell?_of_block hk).trans h3⟩
theorem RefsAt.lit (w : World) (r : RefV) {N : Nat} (hN : w.heap.size = N) : RefsAt (w.alloc (.cells #[.int .i64 r.slot, .int .i64 r.gen] 33)) (some ⟨N, 0, none⟩) 1 [r] := by
  subst hN
  have h := alloc_new w (.cells #[.int .i64 r.slot, .int .i64 r.gen] 33)
  refine ⟨rfl, fun _ => ⟨w.heap.size, rfl, block_lt h, fun i hi => ?_⟩⟩
  obtain rfl : i = 0 := by omega
  exact ⟨r, rfl, cell_of_blk h 0, cell_of_blk h 1⟩
set_option maxHeartbeats 2000000 in
/-- Rows that are the same are told to be. -/
theorem same_yes {w : World} {A B : Option Addr} {n c d : Nat} {l : List RefV} (h : RefsAt w A n l) (k : RefsAt w B n l) (hn : n ≤ 1000000) :
    Calls Try.prog 17 #[.slice A n c, .slice B n d] w fun e w' => e = .returned (.bool true) ∧ ∃ q, w' = w.drewN q := by
  have H := Lib.hid h
  have K := Lib.hid k
  clear h k
  go_enter Try.func17, Try.ntmps17
  go_wp2_with fail
  go_loopw [5] (fun i wr => ∃ I : Nat, I ≤ n ∧ i = .int .i64 I ∧ ∃ q, wr = w.drewN q) (fun i _ => n - (intOf i).toNat)
  case atStart => exact ⟨0, Nat.zero_le _, rfl, 0, rfl⟩
  case round =>
    obtain ⟨I, hI, rfl, q, rfl⟩ := hrel
    by_cases h1 : I < n
    · obtain ⟨g, rfl, _, hc⟩ := H.out.cells (by omega)
      obtain ⟨g2, rfl, _, hc2⟩ := K.out.cells (by omega)
      obtain ⟨r, hr, x0, x1⟩ := hc I h1
      obtain ⟨r2, hr2, y0, y1⟩ := hc2 I h1
      rw [hr] at hr2
      injection hr2 with hr2
      subst hr2
      clear hc hc2 hr
      have a0 : (w.drewN q).cell? ⟨g, I * 2, none⟩ = _ := x0
      have a1 : (w.drewN q).cell? ⟨g, I * 2 + 1, none⟩ = _ := x1
      have b0 : (w.drewN q).cell? ⟨g2, I * 2, none⟩ = _ := y0
      have b1 : (w.drewN q).cell? ⟨g2, I * 2 + 1, none⟩ = _ := y1
      go_wp2_with fail
      go_quiet (fail)
      go_wp2_with fail
      go_roundw
      case rel => exact ⟨I + 1, by omega, by simp, _, rfl⟩
      case measure => simp [intOf]; omega
    · go_wp2_with fail
      go_ret
      exact ⟨rfl, q, rfl⟩
theorem ripe_to {w : World} {lo b n : Nat} {s : EpS} {lv : Nat → Value} (h : EpAt w lo b n s lv) {a : Nat} (ha : a < n) (hn : s.now ≤ 1000000) (hl : (s.lim a).length ≤ 500) (T : List RefV) (hT : toldOf s.now (s.lim a) = T) (K : List OldV) (hK : keptOf s.now (s.lim a) = K) :
    Calls Try.prog 15 #[.pointer (some ⟨b, 0, none⟩), .int .i64 a] w fun e w' => ∃ A c v, e = .returned (.slice A T.length c) ∧ w'.ownsRow w.heap.size 33 2 (.slice A T.length c) T.length (refCells T) ∧
      EpAt w' lo b n { s with lim := upd s.lim a K } (upd lv a v) ∧ Only (EpOwn b lv) w w' ∧ ∀ k, EpOwn b (upd lv a v) k → EpOwn b lv k := by
  subst hT hK
  exact ripe_any h ha hn hl
def aw1 : EpS := ⟨0, upd (fun _ => -1) 0 0, fun _ => []⟩
def aw2 : EpS := ⟨0, aw1.pin, upd (fun _ => []) 1 [⟨3, 0, 0⟩]⟩
def aw3 : EpS := ⟨1, aw1.pin, aw2.lim⟩
def aw4 : EpS := ⟨1, upd aw1.pin 0 (-1), upd aw2.lim 1 [⟨3, 0, 0⟩]⟩
def aw5 : EpS := ⟨2, aw4.pin, aw4.lim⟩
theorem ref_of {w' : World} {b : Nat} {x y : Value} {t : TypeId} (h : w'.heap[b]? = some (.cells #[x, y] t)) : w'.cell? ⟨b, 0, none⟩ = some x ∧ w'.cell? ⟨b, 1, none⟩ = some y := ⟨cell_of_blk h 0, cell_of_blk h 1⟩
set_option maxHeartbeats 2000000 in
theorem awake_any (w : World) : Calls Try.prog 9 #[] w fun e w' => e = .returned (.bool true) ∧ Below w.heap.size w w' := by
  go_enter Try.func9, Try.ntmps9
  go_wp2_with fail
  refine (new_any 2 _ (by decide) (by decide)).mono ?_
  rintro e w1 ⟨rfl, h1, b1⟩
  have lw := block_lt h1.blk
  go_wp2_with fail
  have hr1 := alloc_new w1 (.cells #[.int .i64 3, .int .i64 0] 33)
  have lr1 : w1.heap.size < (w1.alloc (.cells #[.int .i64 3, .int .i64 0] 33)).heap.size := by simp
  have h1' := h1.below0 (bl_alloc (Below.refl _ _) (.cells #[.int .i64 3, .int .i64 0] 33))
  have b1' := bl_alloc b1 (.cells #[.int .i64 3, .int .i64 0] 33)
  generalize w1.alloc (.cells #[.int .i64 3, .int .i64 0] 33) = w2 at *
  generalize w1.heap.size = R at *
  refine (pin_yes h1' (a := 0) (by decide) rfl).mono ?_
  rintro e w3 ⟨rfl, h3, o3⟩
  have h3 : EpAt w3 _ _ _ aw1 _ := h3
  have hr3 := o3.block hr1 (by omega)
  have b3 := bl_only b1' o3 (by rintro k rfl; exact Nat.le_refl _)
  have r0 : w3.cell? ⟨R, 0, none⟩ = some (.int .i64 3) := cell_of_blk hr3 0
  have r1 : w3.cell? ⟨R, 1, none⟩ = some (.int .i64 0) := cell_of_blk hr3 1
  have lr3 := block_lt hr3
  clear h1 b1 hr1 h1' b1' o3 lr1
  go_wp2_with fail
  refine (retire_any h3 (a := 1) (by decide) 3 0 (by omega) (by decide)).mono ?_
  rintro e w4 ⟨rfl, v4, h4, o4, n4⟩
  have h4 : EpAt w4 _ _ _ aw2 _ := h4
  have b4 := bl_only b3 o4 (fun k hk => h3.own_lo hk)
  have nr4 : ¬ EpOwn w.heap.size (upd (fun _ => Value.slice none 0 0) 1 v4) R := fun hk => by
    rcases n4 R hk with (h | ⟨i, _, h⟩) | h
    · omega
    · cases h
    · omega
  have hr4 := o4.block hr3 (by
    rintro (h | ⟨i, _, h⟩)
    · omega
    · cases h)
  clear h3 o4 n4 hr3 r0 r1 b3 lr3
  go_wp2_with fail
  refine (advance_yes h4 (by decide) (by kernel_rfl)).mono ?_
  rintro e w5 ⟨rfl, h5, o5⟩
  have h5 : EpAt w5 _ _ _ aw3 _ := h5
  have b5 := bl_only b4 o5 (by rintro k rfl; exact Nat.le_refl _)
  have hr5 := o5.block hr4 (by omega)
  clear h4 o5 hr4 b4
  go_wp2_with fail
  refine (advance_no h5 (by decide) (by kernel_rfl)).mono ?_
  rintro e w6 ⟨rfl, b56⟩
  have h6 := h5.below0 b56
  have b6 := bl_then b5 b56
  have hr6 := (b56.block _ (block_lt hr5)).trans hr5
  clear h5 b56 b5 hr5
  go_wp2_with fail
  refine (ripe_to h6 (a := 1) (by decide) (by decide) (by decide) [] (by kernel_rfl) [⟨3, 0, 0⟩] (by kernel_rfl)).mono ?_
  rintro e w7 ⟨A7, c7, v7, rfl, _, h7, o7, n7⟩
  have b7 := bl_only b6 o7 (fun k hk => h6.own_lo hk)
  have hr7 := o7.block hr6 nr4
  have nr7 : ¬ EpOwn w.heap.size _ R := fun hk => nr4 (n7 R hk)
  clear h6 o7 n7 hr6 b6 nr4
  go_wp2_with fail
  refine (unpin_yes h7 (a := 0) (by decide) (by decide)).mono ?_
  rintro e w8 ⟨rfl, h8, o8⟩
  have h8 : EpAt w8 _ _ _ aw4 _ := h8
  have b8 := bl_only b7 o8 (by rintro k rfl; exact Nat.le_refl _)
  have hr8 := o8.block hr7 (by omega)
  clear h7 o8 hr7 b7
  go_wp2_with fail
  refine (advance_yes h8 (by decide) (by kernel_rfl)).mono ?_
  rintro e w9 ⟨rfl, h9, o9⟩
  have h9 : EpAt w9 _ _ _ aw5 _ := h9
  have b9 := bl_only b8 o9 (by rintro k rfl; exact Nat.le_refl _)
  have hr9 := o9.block hr8 (by omega)
  clear h8 o9 hr8 b8
  have l9 := block_lt hr9
  have q0 : w9.cell? ⟨R, 0, none⟩ = some (.int .i64 3) := cell_of_blk hr9 0
  have q1 : w9.cell? ⟨R, 1, none⟩ = some (.int .i64 0) := cell_of_blk hr9 1
  have hlit := RefsAt.lit w9 ⟨3, 0⟩ rfl
  clear h4 h5 h3
  go_wp2_with fail
  go_region_held3 (fun w' => w'.cell? ⟨R, 0, none⟩ = some (.int .i64 3) ∧ w'.cell? ⟨R, 1, none⟩ = some (.int .i64 0)) (first | exact ref_of hrC | exact ref_of (alloc_old hrB _) | exact ref_of hrB | exact ref_of (alloc_old hr9 _) | exact ref_of hr9) (first
    | (have hrB' := hrB; go_at_call 17; refine (same_yes (l := [⟨3, 0⟩]) (by first | exact RefsAt.of_own own10 | exact RefsAt.of_own (own10.alloc _)) (by first | exact RefsAt.lit w10 ⟨3, 0⟩ rfl | exact hlit10) (by decide)).mono ?_; rintro e w11 ⟨rfl, q11, rfl⟩; (first | (have hrC : ((w10.alloc (.cells #[.int .i64 3, .int .i64 0] 33)).drewN q11).heap[R]? = _ := alloc_old hrB _) | (have hrC : (w10.drewN q11).heap[R]? = _ := hrB)))
    | (go_at_call 15; refine (ripe_to (h9.below0 (by first | exact bl_drew (Below.refl _ _) | exact bl_drew (bl_alloc (Below.refl _ _) _))) (a := 1) (by decide) (by decide) (by decide) [⟨3, 0⟩] (by kernel_rfl) [] (by kernel_rfl)).mono ?_; rintro e w10 ⟨A10, c10, v10, rfl, own10, h10, o10, n10⟩; have b10 := bl_only (w := w) (by first | exact bl_drew b9 | exact bl_drew (bl_alloc b9 _)) o10 (fun k hk => h9.own_lo hk); have hrB := o10.block (by first | exact hr9 | exact alloc_old hr9 _) nr7; (first | (have hlit10 := RefsAt.kept (hlit.below (bl_drew (Below.refl _ _))) o10 (by rintro g hg hk; injection hg with hg; injection hg with hg _ _; have := h9.own_lt hk; omega)) | skip)))
  all_goals
    clear hrB hrC own10 h10 o10 n10 hr9 q0 q1 h9
    go_wp2
    go_ret
    first
    | exact ⟨rfl, bl_drewN (bl_alloc b10 _) _⟩
    | exact ⟨rfl, bl_drewN b10 _⟩
end Go.Proofs.Ytpklpomajioneaa
