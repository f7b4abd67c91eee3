/- Chapter 8: the events of a run. (Printed by stsets.py.) -/
import Derived.Test.YtecdnpdmjbcioaaSt3
import Derived.Deep.AppendLies
import Derived.Deep.RegionHeld
namespace Go.Proofs.Ytecdnpdmjbcioaa
open Go.RowKit
set_option linter.unusedVariables false
set_option linter.unusedSimpArgs false

theorem info_parts {t : TypeId} {z : Value} {size bytes : Nat} (h : (Try.prog.info? t).map (fun i => (i.zero, i.size, i.bytes)) = some (some z, size, bytes)) : ∃ i, Try.prog.info? t = some i ∧ i.zero = some z ∧ i.size = size ∧ i.bytes = bytes := by
  cases hi : Try.prog.info? t with
  | none => rw [hi] at h; cases h
  | some i =>
    rw [hi] at h
    injection h with h
    injection h with h1 h
    injection h with h2 h3
    exact ⟨i, rfl, h1, h2, h3⟩
theorem infoEv : (Try.prog.info? 53).map (fun i => (i.zero, i.size, i.bytes)) = some (some (.agg #[.int .i64 0, .int .i64 0, .int .i64 0, .int .i64 0, .int .i64 0, .int .i64 0]), 6, 48) := by kernel_rfl
theorem infoEvs : (Try.prog.info? 36).map (fun i => (i.zero, i.size, i.bytes)) = some (some (.slice none 0 0), 1, 24) := by kernel_rfl
theorem own_below {W W' : World} {lo : Nat} {e : TypeId} {size : Nat} {v : Value} {n : Nat} {xs : List Value} (h : W.ownsRow lo e size v n xs) (hb : Below W.heap.size W W') : W'.ownsRow lo e size v n xs :=
  ownsRow_kept h (Only.of_below (S := fun _ => False) hb) (fun _ h => h.elim)
set_option maxRecDepth 20000 in
theorem make_evs (n : Nat) (hn : n ≤ 1000) (W : World) : (Instr.makeSlice 63 (.int .i64 (n : Int)) (.int .i64 (n : Int))).run Try.prog W = .ok (.slice (some ⟨W.heap.size, 0, none⟩) n n) (W.alloc (.cells (List.replicate n (Value.slice none 0 0)).toArray 36 (0, 0))) := by
  obtain ⟨i, hi0, hi1, hi2, hi3⟩ := info_parts infoEvs
  have := run_make (P := Try.prog) W 63 36 i _ Try.underlying63 hi0 hi1 .i64 .i64 n n (by omega) (by omega) (by rw [hi3]; omega) (by omega)
  rw [hi2] at this
  rw [this, Int.toNat_natCast]
  have : madeCells (Value.slice none 0 0).cells (n * 1) = (List.replicate n (Value.slice none 0 0)).toArray := by
    apply Array.ext'
    rw [Nat.mul_one]
    refine List.ext_getElem? fun j => ?_
    by_cases hj : j < n
    · simp [madeCells, Value.cells, hj]
      rw [Nat.mod_one]
      rfl
    · rw [List.getElem?_eq_none (by simp [madeCells]; omega), List.getElem?_eq_none (by simp; omega)]
  rw [this]
/-- A row grows, and is laid down again. -/
theorem row_step {w w3 w7 : World} {X i n g cap : Nat} {vs : List Value} {v : Value} {xs news : List Value} (hX : w3.heap[X]? = some (.cells vs.toArray 36 (0, 0))) (hXl : w.heap.size ≤ X) (ho : w3.ownsRow w.heap.size 53 6 v n xs)
    (hown : w7.ownsRow w.heap.size 53 6 (.slice (some ⟨g, 0, none⟩) (n + 1) cap) (n + 1) (xs ++ news)) (hgr : w3.grownBy w7 v.ownBlock) (hb : Below w.heap.size w w3) (hn : True) :
    w7.heap[X]? = some (.cells vs.toArray 36 (0, 0)) ∧ Below w.heap.size w w7 ∧ (w7.setCell ⟨X, i, none⟩ (.slice (some ⟨g, 0, none⟩) (n + 1) cap)).ownsRow w.heap.size 53 6 (.slice (some ⟨g, 0, none⟩) (n + 1) cap) (n + 1) (xs ++ news) ∧ Below w.heap.size w (w7.setCell ⟨X, i, none⟩ (.slice (some ⟨g, 0, none⟩) (n + 1) cap)) := by
  have h1 : Only (fun k => v.ownBlock = some k) w3 w7 := only_grown (Only.refl _ _) hgr (fun k hk => .inl hk)
  have hX7 : w7.heap[X]? = some (.cells vs.toArray 36 (0, 0)) := h1.block hX (fun hk => by
    rcases ho.2 with ⟨h2, _⟩ | ⟨g', c', cur, e, hbb, hg, _⟩
    · rw [h2] at hk; cases hk
    · subst e
      have e5 : g' = X := by simpa [Value.ownBlock] using hk
      subst e5
      rw [hX] at hg
      injection hg with hg
      injection hg with _ hg _
      cases hg)
  have hb7 : Below w.heap.size w w7 := bl_only hb h1 (fun k hk => own_block ho hk)
  refine ⟨hX7, hb7, ?_, bl_set hb7 _ _ hXl⟩
  refine ownsRow_kept hown ((Only.refl (fun k => k = X) w7).setCell _ _ (.inl rfl)) fun k hk he => ?_
  rw [hk] at he
  rcases hown.2 with ⟨h2, _⟩ | ⟨g', c', cur, e, hbb, hg, _⟩
  · cases h2
  · rw [e] at he
    have e5 : g' = X := by simpa [Value.ownBlock] using he
    subst e5
    rw [hX7] at hg
    injection hg with hg
    injection hg with _ hg _
    cases hg
def evCells (es : List Ev) : List Value := es.flatMap Ev.cells
theorem evCells_length (es : List Ev) : (evCells es).length = es.length * 6 := by
  induction es with
  | nil => rfl
  | cons c cs ih => simp only [evCells, List.flatMap_cons, List.length_append, Ev.cells, List.length_cons, List.length_nil] at *; omega
theorem evCells_at (es : List Ev) : ∀ i, i < es.length → ∀ j, j < 6 → (evCells es)[i * 6 + j]? = (es.getD i Ev.zero).cells[j]? := by
  induction es with
  | nil => intro i hi; simp at hi
  | cons c cs ih =>
    intro i hi j hj
    have hl : c.cells.length = 6 := rfl
    cases i with
    | zero =>
      simp only [evCells, List.flatMap_cons, Nat.zero_mul, Nat.zero_add, List.getD_cons_zero]
      rw [List.getElem?_append_left (by omega)]
    | succ i =>
      have := ih i (by simpa using hi) j hj
      simp only [evCells, List.flatMap_cons, List.getD_cons_succ] at this ⊢
      rw [List.getElem?_append_right (by omega), hl, show (i + 1) * 6 + j - 6 = i * 6 + j by omega]
      exact this
theorem EvsAt.of_own {w : World} {lo : Nat} {A : Option Addr} {n c : Nat} {es : List Ev} (h : w.ownsRow lo 53 6 (.slice A n c) n (evCells es)) : EvsAt w A n es := by
  have hl : es.length = n := by have := h.1; rw [evCells_length] at this; omega
  refine ⟨hl, fun hp => ?_⟩
  obtain ⟨g, rfl, _, _, hg, hc⟩ := own_some h hp
  refine ⟨g, 0, rfl, hg, fun i hi j hj => ?_⟩
  have h1 := evCells_at es i (by omega) j hj
  have h2 : j < (es.getD i Ev.zero).cells.length := hj
  rw [List.getElem?_eq_getElem h2] at h1
  rw [List.getElem?_eq_getElem h2, Nat.zero_add]
  exact hc _ _ h1
/-- Sets that the call has made: a row of slices, each a row of its own. -/
theorem row_other {w3 w7 : World} {lo X i n0 : Nat} {vs : List Value} {v0 y : Value} {xs0 : List Value} (h0 : w3.ownsRow lo 53 6 v0 n0 xs0) (hgr : w3.grownBy w7 (Value.slice none 0 0).ownBlock) (hX7 : w7.heap[X]? = some (.cells vs.toArray 36 (0, 0))) :
    (w7.setCell ⟨X, i, none⟩ y).ownsRow lo 53 6 v0 n0 xs0 := by
  have h1 : Only (fun k => (Value.slice none 0 0).ownBlock = some k) w3 w7 := only_grown (Only.refl _ _) hgr (fun k hk => .inl hk)
  have h7 := ownsRow_kept h0 h1 (fun k hk => by cases hk)
  refine ownsRow_kept h7 ((Only.refl (fun k => k = X) w7).setCell _ _ (.inl rfl)) fun k hk he => ?_
  rw [hk] at he
  rcases h7.2 with ⟨h2, _⟩ | ⟨g', c', cur, e, hbb, hg, _⟩
  · rw [h2] at he; cases he
  · rw [e] at he
    have e5 : g' = X := by simpa [Value.ownBlock] using he
    subst e5
    rw [hX7] at hg
    injection hg with hg
    injection hg with _ hg _
    cases hg
theorem evs_at {w : World} {A : Option Addr} {n : Nat} {es : List Ev} (h : EvsAt w A (n + 1) es) {i : Nat} (hi : i < n + 1) (e : Ev) (he : es.getD i Ev.zero = e) : ∃ b off, A = some ⟨b, off, none⟩ ∧ ∀ W, Below w.heap.size w W →
    W.cell? ⟨b, off + i * 6, none⟩ = some (.int .i64 e.typ) ∧ W.cell? ⟨b, off + i * 6 + 1, none⟩ = some (.int .i64 e.key) ∧ W.cell? ⟨b, off + i * 6 + 2, none⟩ = some (.int .i64 e.a) ∧ W.cell? ⟨b, off + i * 6 + 3, none⟩ = some (.int .i64 e.b) ∧ W.cell? ⟨b, off + i * 6 + 4, none⟩ = some (.int .i64 e.c) ∧ W.cell? ⟨b, off + i * 6 + 5, none⟩ = some (.int .i64 e.d) := by
  obtain ⟨b, off, hA, hb, hc⟩ := h.cells (by omega)
  refine ⟨b, off, hA, fun W hW => ?_⟩
  have hj : ∀ j, j < 6 → W.cell? ⟨b, off + i * 6 + j, none⟩ = e.cells[j]? := fun j hj => by
    rw [← he]
    exact (hW.cell (p := ⟨b, off + i * 6 + j, none⟩) hb).trans (hc i hi j hj)
  exact ⟨hj 0 (by decide), hj 1 (by decide), hj 2 (by decide), hj 3 (by decide), hj 4 (by decide), hj 5 (by decide)⟩
set_option maxHeartbeats 16000000 in
set_option maxRecDepth 100000 in
theorem sets0 {w : World} {HA : Option Addr} {N1 hc S I io ic sc : Nat} {es : List Ev} (hh : EvsAt w HA (N1 + 1) es) (hN : N1 ≤ 100000) (e0 el : Ev) (h0 : es.getD 0 Ev.zero = e0) (hl : es.getD N1 Ev.zero = el) (hr : RunAt w S I io ic) (blk : Bool) :
    Calls Try.prog 53 #[.slice HA (N1 + 1) hc, .agg #[.int .i64 0, .slice (some ⟨S, 0, none⟩) 1 sc, .bool blk], .int .i64 0] w fun e w' => ∃ X, e = .returned (.slice (some ⟨X, 0, none⟩) 1 1) ∧ SetsAt w' (some ⟨X, 0, none⟩) 1 [[e0, el]] ∧ Below w.heap.size w w' := by
  obtain ⟨hb, off, rfl, hs0⟩ := evs_at hh (i := 0) (by omega) e0 h0
  obtain ⟨hb', off', eA, hsl⟩ := evs_at hh (i := N1) (by omega) el hl
  injection eA with eA
  injection eA with eA1 eA2
  subst eA1
  subst eA2
  simp only [Nat.zero_mul, Nat.add_zero] at hs0
  have hwN : IntKind.i64.wrap (N1 : Int) = N1 := IntWalk.i64_in _ (by omega)
  have hN2 : (N1 : Int) < N1 + 1 := by omega
  have HS0 := Lib.hid hs0
  have HSL := Lib.hid hsl
  have HRUN := Lib.hid hr
  have hz := alloc_new w (.cells #[.int .i64 0, .slice (some ⟨S, 0, none⟩) 1 sc, .bool blk] 42)
  have hbz : Below w.heap.size w (w.alloc (.cells #[.int .i64 0, .slice (some ⟨S, 0, none⟩) 1 sc, .bool blk] 42)) := bl_alloc (Below.refl _ _) _
  obtain ⟨x0, x1, x2⟩ := three_of hz
  have hmk : ∀ W : World, (Instr.makeSlice 63 (.int .i64 1) (.int .i64 1)).run Try.prog W = .ok (.slice (some ⟨W.heap.size, 0, none⟩) 1 1) (W.alloc (.cells #[.slice none 0 0] 36 (0, 0))) := fun W => make_evs 1 (by decide) W
  obtain ⟨i0, hi, hz0, hz1, hz2⟩ := info_parts infoEv
  have HZ := Lib.hid hz
  have HBZ := Lib.hid hbz
  clear hh h0 hl hr hz hbz hs0 hsl
  go_enter Try.func53, Try.ntmps53
  have y1 : ((w.alloc (.cells #[.int .i64 0, .slice (some ⟨S, 0, none⟩) 1 sc, .bool blk] 42)).alloc (.cells #[.slice none 0 0] 36 (0, 0))).cell? ⟨w.heap.size, 1, none⟩ = some (.slice (some ⟨S, 0, none⟩) 1 sc) := (three_of (alloc_old HZ.out _)).2.1
  go_wp2_with fail
  have HX0 : Hid (((w.alloc (.cells #[.int .i64 0, .slice (some ⟨S, 0, none⟩) 1 sc, .bool blk] 42)).alloc (.cells #[.slice none 0 0] 36 (0, 0))).heap[w.heap.size + 1]? = some (.cells #[.slice none 0 0] 36 (0, 0))) := Lib.hid (alloc_at (by simp) _)
  have HB0 := Lib.hid (bl_alloc HBZ.out (.cells #[.slice none 0 0] 36 (0, 0)))
  obtain ⟨X, hX⟩ : ∃ X, X = w.heap.size + 1 := ⟨_, rfl⟩
  have HXL : Hid (w.heap.size ≤ X) := Lib.hid (by omega)
  have HXN : Hid True := Lib.hid trivial
  rw [← hX] at HX0
  try rw [← hX]
  clear hX x0 x1 x2 y1 hmk
  generalize (w.alloc (.cells #[.int .i64 0, .slice (some ⟨S, 0, none⟩) 1 sc, .bool blk] 42)).alloc (.cells #[.slice none 0 0] 36 (0, 0)) = wa at *
  go_loopw [22] (fun i wr => (i = .int .i64 0 ∧ wr = wa) ∨ (i = .int .i64 1 ∧ ∃ g0 c0, wr.heap[X]? = some (.cells (([.slice none 0 0] : List Value).set 0 (.slice (some ⟨g0, 0, none⟩) 1 c0)).toArray 36 (0, 0)) ∧ wr.ownsRow w.heap.size 53 6 (.slice (some ⟨g0, 0, none⟩) 1 c0) 1 ([] ++ e0.cells) ∧ Below w.heap.size w wr)) (fun i _ => 1 - (intOf i).toNat)
  case atStart => exact .inl ⟨rfl, rfl⟩
  case round =>
    rcases hrel with ⟨rfl, rfl⟩ | ⟨rfl, g0, c0, hX1, hO1, hB1⟩
    · have s0 := (HRUN.out.below HB0.out).c
      go_wp2_with fail
      obtain ⟨wq, hwq⟩ : ∃ wq, wq = wr := ⟨_, rfl⟩
      subst hwq
      go_loopw [29] (fun i wx => (i = .int .i64 0 ∧ wx = wq) ∨ (i = .int .i64 1 ∧ ∃ g0 c0, wx.heap[X]? = some (.cells (([.slice none 0 0] : List Value).set 0 (.slice (some ⟨g0, 0, none⟩) 1 c0)).toArray 36 (0, 0)) ∧ wx.ownsRow w.heap.size 53 6 (.slice (some ⟨g0, 0, none⟩) 1 c0) 1 ([] ++ e0.cells) ∧ Below w.heap.size w wx)) (fun i _ => 1 - (intOf i).toNat)
      case atStart => exact .inl ⟨rfl, rfl⟩
      case round =>
        rcases hrel with ⟨rfl, rfl⟩ | ⟨rfl, g0, c0, hX1, hO1, hB1⟩
        · have k0 := (HRUN.out.below HB0.out).k
          go_wp2_with fail
          obtain ⟨w0, hw0⟩ : ∃ w0, w0 = wr := ⟨_, rfl⟩
          subst hw0
          have HX1 : Hid (w0.drew.heap[X]? = some (.cells ([.slice none 0 0] : List Value).toArray 36 (0, 0))) := Lib.hid HX0.out
          have HB1 := Lib.hid (bl_drew HB0.out)
          have HO1 : Hid (w0.drew.ownsRow w.heap.size 53 6 (.slice none 0 0) 0 []) := Lib.hid ⟨rfl, .inl ⟨rfl, rfl⟩⟩
          have HS := HS0
          have yd := HS.out _ HB1.out
          clear s0 k0 HX0 HB0
          refine wp_region_held_drew (S := fun w' => w'.cell? ⟨hb, off, none⟩ = some (.int .i64 e0.typ) ∧ w'.cell? ⟨hb, off + 1, none⟩ = some (.int .i64 e0.key) ∧ w'.cell? ⟨hb, off + 2, none⟩ = some (.int .i64 e0.a) ∧ w'.cell? ⟨hb, off + 3, none⟩ = some (.int .i64 e0.b) ∧ w'.cell? ⟨hb, off + 4, none⟩ = some (.int .i64 e0.c) ∧ w'.cell? ⟨hb, off + 5, none⟩ = some (.int .i64 e0.d)) (by kernel_rfl) yd (fun hHeld => ?_)
          generalize w0.drew = w1 at *
          have c7 : w1.cell? ⟨X, 0, none⟩ = some (.slice none 0 0) := cell_of_blk HX1.out 0
          have hx3 : (w1.alloc (.cells #[.int .i64 e0.typ, .int .i64 e0.key, .int .i64 e0.a, .int .i64 e0.b, .int .i64 e0.c, .int .i64 e0.d] 53)).heap[X]? = some (.cells ([.slice none 0 0] : List Value).toArray 36 (0, 0)) := alloc_old HX1.out _
          have c73 : (w1.alloc (.cells #[.int .i64 e0.typ, .int .i64 e0.key, .int .i64 e0.a, .int .i64 e0.b, .int .i64 e0.c, .int .i64 e0.d] 53)).cell? ⟨X, 0, none⟩ = some (.slice none 0 0) := cell_of_blk hx3 0
          have hb3 : Below w.heap.size w (w1.alloc (.cells #[.int .i64 e0.typ, .int .i64 e0.key, .int .i64 e0.a, .int .i64 e0.b, .int .i64 e0.c, .int .i64 e0.d] 53)) := bl_alloc HB1.out _
          have y3 := HS.out _ hb3
          have HX3 := Lib.hid hx3
          have HB3 := Lib.hid hb3
          have HO3 : Hid ((w1.alloc (.cells #[.int .i64 e0.typ, .int .i64 e0.key, .int .i64 e0.a, .int .i64 e0.b, .int .i64 e0.c, .int .i64 e0.d] 53)).ownsRow w.heap.size 53 6 (.slice none 0 0) 0 []) := Lib.hid (own_below HO1.out (bl_alloc (Below.refl _ _) _))
          have HN3 : Hid ((w1.alloc (.cells #[.int .i64 e0.typ, .int .i64 e0.key, .int .i64 e0.a, .int .i64 e0.b, .int .i64 e0.c, .int .i64 e0.d] 53)).heap[w1.heap.size]? = some (.cells #[.int .i64 e0.typ, .int .i64 e0.key, .int .i64 e0.a, .int .i64 e0.b, .int .i64 e0.c, .int .i64 e0.d] 53 (0, 0))) := Lib.hid (alloc_new _ _)
          have HLO3 : Hid (w.heap.size ≤ (w1.alloc (.cells #[.int .i64 e0.typ, .int .i64 e0.key, .int .i64 e0.a, .int .i64 e0.b, .int .i64 e0.c, .int .i64 e0.d] 53)).heap.size) := Lib.hid hb3.size
          clear hx3 hb3
          refine' wpAnyH_take (i := 0) (oi := ⟨some 33, _, _, _, _, _⟩) (v := ?v1) rfl (by kernel_rfl) (by kernel_rfl) (by kernel_rfl) (fun _ _ _ h => h) (Or.inl ⟨by rfl, ?hy1⟩) hHeld ?rest1
          case hy1 => (intro W hSw; go_simp; first | done | with_reducible rfl)
          simp only [Act.put, List.setIfInBounds_toArray, List.set_cons_zero, List.set_cons_succ]
          refine' wpAnyH_take (i := 1) (oi := ⟨some 34, _, _, _, _, _⟩) (v := ?v2) rfl (by kernel_rfl) (by kernel_rfl) (by kernel_rfl) (fun _ _ _ h => h) (Or.inl ⟨by rfl, ?hy2⟩) hHeld ?rest2
          case hy2 => (intro W hSw; go_simp; first | done | with_reducible rfl)
          simp only [Act.put, List.setIfInBounds_toArray, List.set_cons_zero, List.set_cons_succ]
          refine' wpAnyH_take (i := 2) (oi := ⟨some 35, _, _, _, _, _⟩) (v := ?v3) rfl (by kernel_rfl) (by kernel_rfl) (by kernel_rfl) (fun _ _ _ h => h) (Or.inl ⟨by rfl, ?hy3⟩) hHeld ?rest3
          case hy3 => (intro W hSw; go_simp; first | done | with_reducible rfl)
          simp only [Act.put, List.setIfInBounds_toArray, List.set_cons_zero, List.set_cons_succ]
          refine' wpAnyH_take (i := 3) (oi := ⟨some 36, _, _, _, _, _⟩) (v := ?v4) rfl (by kernel_rfl) (by kernel_rfl) (by kernel_rfl) (fun _ _ _ h => h) (Or.inl ⟨by rfl, ?hy4⟩) hHeld ?rest4
          case hy4 => (intro W hSw; go_simp; first | done | with_reducible rfl)
          simp only [Act.put, List.setIfInBounds_toArray, List.set_cons_zero, List.set_cons_succ]
          refine' wpAnyH_take (i := 4) (oi := ⟨some 37, _, _, _, _, _⟩) (v := ?v5) rfl (by kernel_rfl) (by kernel_rfl) (by kernel_rfl) (fun _ _ _ h => h) (Or.inl ⟨by rfl, ?hy5⟩) hHeld ?rest5
          case hy5 => (intro W hSw; go_simp; first | done | with_reducible rfl)
          simp only [Act.put, List.setIfInBounds_toArray, List.set_cons_zero, List.set_cons_succ]
          refine' wpAnyH_take (i := 6) (oi := ⟨some 39, _, _, _, _, _⟩) (v := ?v6) rfl (by kernel_rfl) (by kernel_rfl) (by kernel_rfl) (fun _ _ _ h => h) (Or.inl ⟨by rfl, ?hy6⟩) hHeld ?rest6
          case hy6 => (intro W hSw; go_simp; first | done | with_reducible rfl)
          simp only [Act.put, List.setIfInBounds_toArray, List.set_cons_zero, List.set_cons_succ]
          refine' wpAnyH_take (i := 7) (oi := ⟨some 40, _, _, _, _, _⟩) (v := ?v7) rfl (by kernel_rfl) (by kernel_rfl) (by kernel_rfl) (fun _ _ _ h => h) (Or.inl ⟨by rfl, ?hy7⟩) hHeld ?rest7
          case hy7 => (intro W hSw; go_simp; first | done | with_reducible rfl)
          simp only [Act.put, List.setIfInBounds_toArray, List.set_cons_zero, List.set_cons_succ]
          refine' wpAnyH_take (i := 8) (oi := ⟨some 41, _, _, _, _, _⟩) (v := ?v8) rfl (by kernel_rfl) (by kernel_rfl) (by kernel_rfl) (fun _ _ _ h => h) (Or.inl ⟨by rfl, ?hy8⟩) hHeld ?rest8
          case hy8 => (intro W hSw; go_simp; first | done | with_reducible rfl)
          simp only [Act.put, List.setIfInBounds_toArray, List.set_cons_zero, List.set_cons_succ]
          refine' wpAnyH_take (i := 9) (oi := ⟨some 42, _, _, _, _, _⟩) (v := ?v9) rfl (by kernel_rfl) (by kernel_rfl) (by kernel_rfl) (fun _ _ _ h => h) (Or.inl ⟨by rfl, ?hy9⟩) hHeld ?rest9
          case hy9 => (intro W hSw; go_simp; first | done | with_reducible rfl)
          simp only [Act.put, List.setIfInBounds_toArray, List.set_cons_zero, List.set_cons_succ]
          refine wpAnyH_ready (rs := [5, 10]) (by kernel_rfl) (by simp) ?_
          refine AllReadyH.cons (o := ⟨some 38, _, _, _, _, _⟩) rfl (fun K hK => ?_) (AllReadyH.cons (o := ⟨some 43, _, _, _, _, _⟩) rfl (fun K hK => ?_) AllReadyH.nil)
          · go_simp
            refine hK.out _ _ hHeld (fun hHeld => ?_)
            clear hK K
            try simp only [Act.put, List.setIfInBounds_toArray, List.set_cons_zero, List.set_cons_succ]
            refine wpAnyH_ready (rs := [10]) (by kernel_rfl) (by simp) ?_
            refine AllReadyH.cons (o := ⟨some 43, _, _, _, _, _⟩) rfl (fun K hK => ?_) AllReadyH.nil
            go_simp
            refine hK.out _ _ y3 (fun hHeld => ?_)
            clear hK K
            try simp only [Act.put, List.setIfInBounds_toArray, List.set_cons_zero, List.set_cons_succ]
            refine wpAnyH_ready (rs := [11]) (by kernel_rfl) (by simp) ?_
            refine AllReadyH.cons (o := ⟨some 44, _, _, _, _, _⟩) rfl (fun K hK => ?_) AllReadyH.nil
            refine step_append_lies _ (by rfl) _ _ _ (by rfl) w.heap.size 53 i0 _ 6 48 Try.underlying36 hi hz0 hz1 hz2 rfl (by decide) (.slice none 0 0) 0 [] (by rfl) HO3.out ⟨w1.heap.size, 0, none⟩ 1 1 (Ev.cells e0) (by rfl) (by rfl) (World.news_of_block (cs := #[.int .i64 e0.typ, .int .i64 e0.key, .int .i64 e0.a, .int .i64 e0.b, .int .i64 e0.c, .int .i64 e0.d]) (t := 53) (fr := (0, 0)) HN3.out) (by simp [Ev.cells, Value.oneCell']) (by decide) (by simp only [maxLen]; omega) (by omega) HLO3.out _ rfl ?_
            intro g cap w7 hown hgr hat hlt7
            obtain ⟨hX7, hx7, hown8, hb8⟩ := row_step (i := 0) HX3.out HXL.out HO3.out hown hgr HB3.out HXN.out
            have y7 := HS.out _ hx7
            have y8 := HS.out _ hb8
            have c7' : w7.cell? ⟨X, 0, none⟩ = some (.slice none 0 0) := cell_of_blk hX7 0
            have f7' : w7.frozen? ⟨X, 0, none⟩ = false := free_of_blk hX7 0
            have HO8 := Lib.hid hown8
            have HB8 := Lib.hid hb8
            have hx8 := setCell_same hX7 (i := 0) (.slice (some ⟨g, 0, none⟩) (0 + 1) cap)
            have HX8 := Lib.hid hx8
            have HGR := Lib.hid hgr
            clear hown hgr hat hlt7 hX7 hx7 hown8 hb8 hx8
            refine hK.out _ _ y7 (fun hHeld => ?_)
            clear hK K
            try simp only [Act.put, List.setIfInBounds_toArray, List.set_cons_zero, List.set_cons_succ]
            refine' wpAnyH_take (i := 12) (oi := ⟨some 45, _, _, _, _, _⟩) (v := ?v10) rfl (by kernel_rfl) (by kernel_rfl) (by kernel_rfl) (fun _ _ _ h => h) (Or.inl ⟨by rfl, ?hy10⟩) hHeld ?rest10
            case hy10 => (intro W hSw; go_simp; first | done | with_reducible rfl)
            simp only [Act.put, List.setIfInBounds_toArray, List.set_cons_zero, List.set_cons_succ]
            refine wpAnyH_ready (rs := [13]) (by kernel_rfl) (by simp) ?_
            refine AllReadyH.cons (o := ⟨none, _, _, _, _, _⟩) rfl (fun K hK => ?_) AllReadyH.nil
            go_simp
            refine hK.out _ _ y8 (fun hHeld => ?_)
            clear hK K
            try simp only [Act.put, List.setIfInBounds_toArray, List.set_cons_zero, List.set_cons_succ]
            refine wpAnyH_done (by kernel_rfl) ?_ _
            go_wp2_with fail
            go_roundw
            case rel => exact .inr ⟨rfl, g, cap, HX8.out, HO8.out, HB8.out⟩
            case measure => simp [intOf]
          · go_simp
            refine hK.out _ _ y3 (fun hHeld => ?_)
            clear hK K
            try simp only [Act.put, List.setIfInBounds_toArray, List.set_cons_zero, List.set_cons_succ]
            refine wpAnyH_ready (rs := [5]) (by kernel_rfl) (by simp) ?_
            refine AllReadyH.cons (o := ⟨some 38, _, _, _, _, _⟩) rfl (fun K hK => ?_) AllReadyH.nil
            go_simp
            refine hK.out _ _ hHeld (fun hHeld => ?_)
            clear hK K
            try simp only [Act.put, List.setIfInBounds_toArray, List.set_cons_zero, List.set_cons_succ]
            refine wpAnyH_ready (rs := [11]) (by kernel_rfl) (by simp) ?_
            refine AllReadyH.cons (o := ⟨some 44, _, _, _, _, _⟩) rfl (fun K hK => ?_) AllReadyH.nil
            refine step_append_lies _ (by rfl) _ _ _ (by rfl) w.heap.size 53 i0 _ 6 48 Try.underlying36 hi hz0 hz1 hz2 rfl (by decide) (.slice none 0 0) 0 [] (by rfl) HO3.out ⟨w1.heap.size, 0, none⟩ 1 1 (Ev.cells e0) (by rfl) (by rfl) (World.news_of_block (cs := #[.int .i64 e0.typ, .int .i64 e0.key, .int .i64 e0.a, .int .i64 e0.b, .int .i64 e0.c, .int .i64 e0.d]) (t := 53) (fr := (0, 0)) HN3.out) (by simp [Ev.cells, Value.oneCell']) (by decide) (by simp only [maxLen]; omega) (by omega) HLO3.out _ rfl ?_
            intro g cap w7 hown hgr hat hlt7
            obtain ⟨hX7, hx7, hown8, hb8⟩ := row_step (i := 0) HX3.out HXL.out HO3.out hown hgr HB3.out HXN.out
            have y7 := HS.out _ hx7
            have y8 := HS.out _ hb8
            have c7' : w7.cell? ⟨X, 0, none⟩ = some (.slice none 0 0) := cell_of_blk hX7 0
            have f7' : w7.frozen? ⟨X, 0, none⟩ = false := free_of_blk hX7 0
            have HO8 := Lib.hid hown8
            have HB8 := Lib.hid hb8
            have hx8 := setCell_same hX7 (i := 0) (.slice (some ⟨g, 0, none⟩) (0 + 1) cap)
            have HX8 := Lib.hid hx8
            have HGR := Lib.hid hgr
            clear hown hgr hat hlt7 hX7 hx7 hown8 hb8 hx8
            refine hK.out _ _ y7 (fun hHeld => ?_)
            clear hK K
            try simp only [Act.put, List.setIfInBounds_toArray, List.set_cons_zero, List.set_cons_succ]
            refine' wpAnyH_take (i := 12) (oi := ⟨some 45, _, _, _, _, _⟩) (v := ?v11) rfl (by kernel_rfl) (by kernel_rfl) (by kernel_rfl) (fun _ _ _ h => h) (Or.inl ⟨by rfl, ?hy11⟩) hHeld ?rest11
            case hy11 => (intro W hSw; go_simp; first | done | with_reducible rfl)
            simp only [Act.put, List.setIfInBounds_toArray, List.set_cons_zero, List.set_cons_succ]
            refine wpAnyH_ready (rs := [13]) (by kernel_rfl) (by simp) ?_
            refine AllReadyH.cons (o := ⟨none, _, _, _, _, _⟩) rfl (fun K hK => ?_) AllReadyH.nil
            go_simp
            refine hK.out _ _ y8 (fun hHeld => ?_)
            clear hK K
            try simp only [Act.put, List.setIfInBounds_toArray, List.set_cons_zero, List.set_cons_succ]
            refine wpAnyH_done (by kernel_rfl) ?_ _
            go_wp2_with fail
            go_roundw
            case rel => exact .inr ⟨rfl, g, cap, HX8.out, HO8.out, HB8.out⟩
            case measure => simp [intOf]
        · have HXX := Lib.hid hX1
          have HOO := Lib.hid hO1
          have HBB := Lib.hid hB1
          clear hX1 hO1 hB1 s0
          go_wp2_with fail
          go_roundw
          case rel => exact .inr ⟨by simp, g0, c0, HXX.out, HOO.out, HBB.out⟩
          case measure => simp [intOf]
    · have HXX := Lib.hid hX1
      have HOO := Lib.hid hO1
      have HBB := Lib.hid hB1
      clear hX1 hO1 hB1
      go_wp2_with fail
      obtain ⟨w0, hw0⟩ : ∃ w0, w0 = wr := ⟨_, rfl⟩
      subst hw0
      have HX1 : Hid (w0.drew.heap[X]? = some (.cells ([.slice (some ⟨g0, 0, none⟩) 1 c0] : List Value).toArray 36 (0, 0))) := Lib.hid HXX.out
      have HB1 := Lib.hid (bl_drew HBB.out)
      have HO1 : Hid (w0.drew.ownsRow w.heap.size 53 6 (.slice (some ⟨g0, 0, none⟩) 1 c0) 1 ([] ++ e0.cells)) := Lib.hid (own_below HOO.out (bl_drew (Below.refl _ _)))
      have HS := HSL
      have yd := HS.out _ HB1.out
      clear HX0 HB0 HXX HOO HBB
      refine wp_region_held_drew (S := fun w' => w'.cell? ⟨hb, off + N1 * 6, none⟩ = some (.int .i64 el.typ) ∧ w'.cell? ⟨hb, off + N1 * 6 + 1, none⟩ = some (.int .i64 el.key) ∧ w'.cell? ⟨hb, off + N1 * 6 + 2, none⟩ = some (.int .i64 el.a) ∧ w'.cell? ⟨hb, off + N1 * 6 + 3, none⟩ = some (.int .i64 el.b) ∧ w'.cell? ⟨hb, off + N1 * 6 + 4, none⟩ = some (.int .i64 el.c) ∧ w'.cell? ⟨hb, off + N1 * 6 + 5, none⟩ = some (.int .i64 el.d)) (by kernel_rfl) yd (fun hHeld => ?_)
      generalize w0.drew = w1 at *
      have c7 : w1.cell? ⟨X, 0, none⟩ = some (.slice (some ⟨g0, 0, none⟩) 1 c0) := cell_of_blk HX1.out 0
      have hx3 : (w1.alloc (.cells #[.int .i64 el.typ, .int .i64 el.key, .int .i64 el.a, .int .i64 el.b, .int .i64 el.c, .int .i64 el.d] 53)).heap[X]? = some (.cells ([.slice (some ⟨g0, 0, none⟩) 1 c0] : List Value).toArray 36 (0, 0)) := alloc_old HX1.out _
      have c73 : (w1.alloc (.cells #[.int .i64 el.typ, .int .i64 el.key, .int .i64 el.a, .int .i64 el.b, .int .i64 el.c, .int .i64 el.d] 53)).cell? ⟨X, 0, none⟩ = some (.slice (some ⟨g0, 0, none⟩) 1 c0) := cell_of_blk hx3 0
      have hb3 : Below w.heap.size w (w1.alloc (.cells #[.int .i64 el.typ, .int .i64 el.key, .int .i64 el.a, .int .i64 el.b, .int .i64 el.c, .int .i64 el.d] 53)) := bl_alloc HB1.out _
      have y3 := HS.out _ hb3
      have HX3 := Lib.hid hx3
      have HB3 := Lib.hid hb3
      have HO3 : Hid ((w1.alloc (.cells #[.int .i64 el.typ, .int .i64 el.key, .int .i64 el.a, .int .i64 el.b, .int .i64 el.c, .int .i64 el.d] 53)).ownsRow w.heap.size 53 6 (.slice (some ⟨g0, 0, none⟩) 1 c0) 1 ([] ++ e0.cells)) := Lib.hid (own_below HO1.out (bl_alloc (Below.refl _ _) _))
      have HN3 : Hid ((w1.alloc (.cells #[.int .i64 el.typ, .int .i64 el.key, .int .i64 el.a, .int .i64 el.b, .int .i64 el.c, .int .i64 el.d] 53)).heap[w1.heap.size]? = some (.cells #[.int .i64 el.typ, .int .i64 el.key, .int .i64 el.a, .int .i64 el.b, .int .i64 el.c, .int .i64 el.d] 53 (0, 0))) := Lib.hid (alloc_new _ _)
      have HLO3 : Hid (w.heap.size ≤ (w1.alloc (.cells #[.int .i64 el.typ, .int .i64 el.key, .int .i64 el.a, .int .i64 el.b, .int .i64 el.c, .int .i64 el.d] 53)).heap.size) := Lib.hid hb3.size
      clear hx3 hb3
      refine' wpAnyH_take (i := 0) (oi := ⟨some 48, _, _, _, _, _⟩) (v := ?v12) rfl (by kernel_rfl) (by kernel_rfl) (by kernel_rfl) (fun _ _ _ h => h) (Or.inl ⟨by rfl, ?hy12⟩) hHeld ?rest12
      case hy12 => (intro W hSw; go_simp; first | done | with_reducible rfl)
      simp only [Act.put, List.setIfInBounds_toArray, List.set_cons_zero, List.set_cons_succ]
      refine' wpAnyH_take (i := 1) (oi := ⟨some 49, _, _, _, _, _⟩) (v := ?v13) rfl (by kernel_rfl) (by kernel_rfl) (by kernel_rfl) (fun _ _ _ h => h) (Or.inl ⟨by rfl, ?hy13⟩) hHeld ?rest13
      case hy13 => (intro W hSw; go_simp; first | done | with_reducible rfl)
      simp only [Act.put, List.setIfInBounds_toArray, List.set_cons_zero, List.set_cons_succ]
      refine' wpAnyH_take (i := 2) (oi := ⟨some 50, _, _, _, _, _⟩) (v := ?v14) rfl (by kernel_rfl) (by kernel_rfl) (by kernel_rfl) (fun _ _ _ h => h) (Or.inl ⟨by rfl, ?hy14⟩) hHeld ?rest14
      case hy14 => (intro W hSw; go_simp; first | done | with_reducible rfl)
      simp only [Act.put, List.setIfInBounds_toArray, List.set_cons_zero, List.set_cons_succ]
      refine' wpAnyH_take (i := 3) (oi := ⟨some 51, _, _, _, _, _⟩) (v := ?v15) rfl (by kernel_rfl) (by kernel_rfl) (by kernel_rfl) (fun _ _ _ h => h) (Or.inl ⟨by rfl, ?hy15⟩) hHeld ?rest15
      case hy15 => (intro W hSw; go_simp; first | done | with_reducible rfl)
      simp only [Act.put, List.setIfInBounds_toArray, List.set_cons_zero, List.set_cons_succ]
      refine' wpAnyH_take (i := 4) (oi := ⟨some 52, _, _, _, _, _⟩) (v := ?v16) rfl (by kernel_rfl) (by kernel_rfl) (by kernel_rfl) (fun _ _ _ h => h) (Or.inl ⟨by rfl, ?hy16⟩) hHeld ?rest16
      case hy16 => (intro W hSw; go_simp; first | done | with_reducible rfl)
      simp only [Act.put, List.setIfInBounds_toArray, List.set_cons_zero, List.set_cons_succ]
      refine' wpAnyH_take (i := 6) (oi := ⟨some 54, _, _, _, _, _⟩) (v := ?v17) rfl (by kernel_rfl) (by kernel_rfl) (by kernel_rfl) (fun _ _ _ h => h) (Or.inl ⟨by rfl, ?hy17⟩) hHeld ?rest17
      case hy17 => (intro W hSw; go_simp; first | done | with_reducible rfl)
      simp only [Act.put, List.setIfInBounds_toArray, List.set_cons_zero, List.set_cons_succ]
      refine' wpAnyH_take (i := 7) (oi := ⟨some 55, _, _, _, _, _⟩) (v := ?v18) rfl (by kernel_rfl) (by kernel_rfl) (by kernel_rfl) (fun _ _ _ h => h) (Or.inl ⟨by rfl, ?hy18⟩) hHeld ?rest18
      case hy18 => (intro W hSw; go_simp; first | done | with_reducible rfl)
      simp only [Act.put, List.setIfInBounds_toArray, List.set_cons_zero, List.set_cons_succ]
      refine' wpAnyH_take (i := 8) (oi := ⟨some 56, _, _, _, _, _⟩) (v := ?v19) rfl (by kernel_rfl) (by kernel_rfl) (by kernel_rfl) (fun _ _ _ h => h) (Or.inl ⟨by rfl, ?hy19⟩) hHeld ?rest19
      case hy19 => (intro W hSw; go_simp; first | done | with_reducible rfl)
      simp only [Act.put, List.setIfInBounds_toArray, List.set_cons_zero, List.set_cons_succ]
      refine' wpAnyH_take (i := 9) (oi := ⟨some 57, _, _, _, _, _⟩) (v := ?v20) rfl (by kernel_rfl) (by kernel_rfl) (by kernel_rfl) (fun _ _ _ h => h) (Or.inl ⟨by rfl, ?hy20⟩) hHeld ?rest20
      case hy20 => (intro W hSw; go_simp; first | done | with_reducible rfl)
      simp only [Act.put, List.setIfInBounds_toArray, List.set_cons_zero, List.set_cons_succ]
      refine' wpAnyH_take (i := 10) (oi := ⟨some 58, _, _, _, _, _⟩) (v := ?v21) rfl (by kernel_rfl) (by kernel_rfl) (by kernel_rfl) (fun _ _ _ h => h) (Or.inl ⟨by rfl, ?hy21⟩) hHeld ?rest21
      case hy21 => (intro W hSw; go_simp; first | done | with_reducible rfl)
      simp only [Act.put, List.setIfInBounds_toArray, List.set_cons_zero, List.set_cons_succ]
      refine' wpAnyH_take (i := 11) (oi := ⟨some 59, _, _, _, _, _⟩) (v := ?v22) rfl (by kernel_rfl) (by kernel_rfl) (by kernel_rfl) (fun _ _ _ h => h) (Or.inl ⟨by rfl, ?hy22⟩) hHeld ?rest22
      case hy22 => (intro W hSw; go_simp; first | done | with_reducible rfl)
      simp only [Act.put, List.setIfInBounds_toArray, List.set_cons_zero, List.set_cons_succ]
      refine wpAnyH_ready (rs := [5, 12]) (by kernel_rfl) (by simp) ?_
      refine AllReadyH.cons (o := ⟨some 53, _, _, _, _, _⟩) rfl (fun K hK => ?_) (AllReadyH.cons (o := ⟨some 60, _, _, _, _, _⟩) rfl (fun K hK => ?_) AllReadyH.nil)
      · go_simp
        refine hK.out _ _ hHeld (fun hHeld => ?_)
        clear hK K
        try simp only [Act.put, List.setIfInBounds_toArray, List.set_cons_zero, List.set_cons_succ]
        refine wpAnyH_ready (rs := [12]) (by kernel_rfl) (by simp) ?_
        refine AllReadyH.cons (o := ⟨some 60, _, _, _, _, _⟩) rfl (fun K hK => ?_) AllReadyH.nil
        go_simp
        refine hK.out _ _ y3 (fun hHeld => ?_)
        clear hK K
        try simp only [Act.put, List.setIfInBounds_toArray, List.set_cons_zero, List.set_cons_succ]
        refine wpAnyH_ready (rs := [13]) (by kernel_rfl) (by simp) ?_
        refine AllReadyH.cons (o := ⟨some 61, _, _, _, _, _⟩) rfl (fun K hK => ?_) AllReadyH.nil
        refine step_append_lies _ (by rfl) _ _ _ (by rfl) w.heap.size 53 i0 _ 6 48 Try.underlying36 hi hz0 hz1 hz2 rfl (by decide) (.slice (some ⟨g0, 0, none⟩) 1 c0) 1 ([] ++ e0.cells) (by rfl) HO3.out ⟨w1.heap.size, 0, none⟩ 1 1 (Ev.cells el) (by rfl) (by rfl) (World.news_of_block (cs := #[.int .i64 el.typ, .int .i64 el.key, .int .i64 el.a, .int .i64 el.b, .int .i64 el.c, .int .i64 el.d]) (t := 53) (fr := (0, 0)) HN3.out) (by simp [Ev.cells, Value.oneCell']) (by decide) (by simp only [maxLen]; omega) (by omega) HLO3.out _ rfl ?_
        intro g cap w7 hown hgr hat hlt7
        obtain ⟨hX7, hx7, hown8, hb8⟩ := row_step (i := 0) HX3.out HXL.out HO3.out hown hgr HB3.out HXN.out
        have y7 := HS.out _ hx7
        have y8 := HS.out _ hb8
        have c7' : w7.cell? ⟨X, 0, none⟩ = some (.slice (some ⟨g0, 0, none⟩) 1 c0) := cell_of_blk hX7 0
        have f7' : w7.frozen? ⟨X, 0, none⟩ = false := free_of_blk hX7 0
        have HO8 := Lib.hid hown8
        have HX7 := Lib.hid hX7
        have HB8 := Lib.hid hb8
        have hx8 := setCell_same hX7 (i := 0) (.slice (some ⟨g, 0, none⟩) (1 + 1) cap)
        have HX8 := Lib.hid hx8
        have HGR := Lib.hid hgr
        clear hown hgr hat hlt7 hX7 hx7 hown8 hb8 hx8
        refine hK.out _ _ y7 (fun hHeld => ?_)
        clear hK K
        try simp only [Act.put, List.setIfInBounds_toArray, List.set_cons_zero, List.set_cons_succ]
        refine' wpAnyH_take (i := 14) (oi := ⟨some 62, _, _, _, _, _⟩) (v := ?v23) rfl (by kernel_rfl) (by kernel_rfl) (by kernel_rfl) (fun _ _ _ h => h) (Or.inl ⟨by rfl, ?hy23⟩) hHeld ?rest23
        case hy23 => (intro W hSw; go_simp; first | done | with_reducible rfl)
        simp only [Act.put, List.setIfInBounds_toArray, List.set_cons_zero, List.set_cons_succ]
        refine wpAnyH_ready (rs := [15]) (by kernel_rfl) (by simp) ?_
        refine AllReadyH.cons (o := ⟨none, _, _, _, _, _⟩) rfl (fun K hK => ?_) AllReadyH.nil
        go_simp
        refine hK.out _ _ y8 (fun hHeld => ?_)
        clear hK K
        try simp only [Act.put, List.setIfInBounds_toArray, List.set_cons_zero, List.set_cons_succ]
        refine wpAnyH_done (by kernel_rfl) ?_ _
        go_wp2_with fail
        go_ret
        refine ⟨X, rfl, ?_, HB8.out⟩
        refine ⟨rfl, fun _ => ⟨X, 0, rfl, block_lt HX8.out, fun i hi => ?_⟩⟩
        obtain rfl : i = 0 := by omega
        exact ⟨_, _, cell_of_blk HX8.out 0, EvsAt.of_own (es := [e0, el]) HO8.out⟩
      · go_simp
        refine hK.out _ _ y3 (fun hHeld => ?_)
        clear hK K
        try simp only [Act.put, List.setIfInBounds_toArray, List.set_cons_zero, List.set_cons_succ]
        refine wpAnyH_ready (rs := [5]) (by kernel_rfl) (by simp) ?_
        refine AllReadyH.cons (o := ⟨some 53, _, _, _, _, _⟩) rfl (fun K hK => ?_) AllReadyH.nil
        go_simp
        refine hK.out _ _ hHeld (fun hHeld => ?_)
        clear hK K
        try simp only [Act.put, List.setIfInBounds_toArray, List.set_cons_zero, List.set_cons_succ]
        refine wpAnyH_ready (rs := [13]) (by kernel_rfl) (by simp) ?_
        refine AllReadyH.cons (o := ⟨some 61, _, _, _, _, _⟩) rfl (fun K hK => ?_) AllReadyH.nil
        refine step_append_lies _ (by rfl) _ _ _ (by rfl) w.heap.size 53 i0 _ 6 48 Try.underlying36 hi hz0 hz1 hz2 rfl (by decide) (.slice (some ⟨g0, 0, none⟩) 1 c0) 1 ([] ++ e0.cells) (by rfl) HO3.out ⟨w1.heap.size, 0, none⟩ 1 1 (Ev.cells el) (by rfl) (by rfl) (World.news_of_block (cs := #[.int .i64 el.typ, .int .i64 el.key, .int .i64 el.a, .int .i64 el.b, .int .i64 el.c, .int .i64 el.d]) (t := 53) (fr := (0, 0)) HN3.out) (by simp [Ev.cells, Value.oneCell']) (by decide) (by simp only [maxLen]; omega) (by omega) HLO3.out _ rfl ?_
        intro g cap w7 hown hgr hat hlt7
        obtain ⟨hX7, hx7, hown8, hb8⟩ := row_step (i := 0) HX3.out HXL.out HO3.out hown hgr HB3.out HXN.out
        have y7 := HS.out _ hx7
        have y8 := HS.out _ hb8
        have c7' : w7.cell? ⟨X, 0, none⟩ = some (.slice (some ⟨g0, 0, none⟩) 1 c0) := cell_of_blk hX7 0
        have f7' : w7.frozen? ⟨X, 0, none⟩ = false := free_of_blk hX7 0
        have HO8 := Lib.hid hown8
        have HX7 := Lib.hid hX7
        have HB8 := Lib.hid hb8
        have hx8 := setCell_same hX7 (i := 0) (.slice (some ⟨g, 0, none⟩) (1 + 1) cap)
        have HX8 := Lib.hid hx8
        have HGR := Lib.hid hgr
        clear hown hgr hat hlt7 hX7 hx7 hown8 hb8 hx8
        refine hK.out _ _ y7 (fun hHeld => ?_)
        clear hK K
        try simp only [Act.put, List.setIfInBounds_toArray, List.set_cons_zero, List.set_cons_succ]
        refine' wpAnyH_take (i := 14) (oi := ⟨some 62, _, _, _, _, _⟩) (v := ?v24) rfl (by kernel_rfl) (by kernel_rfl) (by kernel_rfl) (fun _ _ _ h => h) (Or.inl ⟨by rfl, ?hy24⟩) hHeld ?rest24
        case hy24 => (intro W hSw; go_simp; first | done | with_reducible rfl)
        simp only [Act.put, List.setIfInBounds_toArray, List.set_cons_zero, List.set_cons_succ]
        refine wpAnyH_ready (rs := [15]) (by kernel_rfl) (by simp) ?_
        refine AllReadyH.cons (o := ⟨none, _, _, _, _, _⟩) rfl (fun K hK => ?_) AllReadyH.nil
        go_simp
        refine hK.out _ _ y8 (fun hHeld => ?_)
        clear hK K
        try simp only [Act.put, List.setIfInBounds_toArray, List.set_cons_zero, List.set_cons_succ]
        refine wpAnyH_done (by kernel_rfl) ?_ _
        go_wp2_with fail
        go_ret
        refine ⟨X, rfl, ?_, HB8.out⟩
        refine ⟨rfl, fun _ => ⟨X, 0, rfl, block_lt HX8.out, fun i hi => ?_⟩⟩
        obtain rfl : i = 0 := by omega
        exact ⟨_, _, cell_of_blk HX8.out 0, EvsAt.of_own (es := [e0, el]) HO8.out⟩
set_option maxHeartbeats 16000000 in
set_option maxRecDepth 100000 in
theorem sets1 {w : World} {HA : Option Addr} {N1 hc S I io ic sc : Nat} {es : List Ev} (hh : EvsAt w HA (N1 + 1) es) (hN : N1 ≤ 100000) (e0 el : Ev) (h0 : es.getD 0 Ev.zero = e0) (hl : es.getD N1 Ev.zero = el) (hr : RunAt w S I io ic) (blk : Bool) :
    Calls Try.prog 53 #[.slice HA (N1 + 1) hc, .agg #[.int .i64 0, .slice (some ⟨S, 0, none⟩) 1 sc, .bool blk], .int .i64 1] w fun e w' => ∃ X, e = .returned (.slice (some ⟨X, 0, none⟩) 2 2) ∧ SetsAt w' (some ⟨X, 0, none⟩) 2 [[e0], [el]] ∧ Below w.heap.size w w' := by
  obtain ⟨hb, off, rfl, hs0⟩ := evs_at hh (i := 0) (by omega) e0 h0
  obtain ⟨hb', off', eA, hsl⟩ := evs_at hh (i := N1) (by omega) el hl
  injection eA with eA
  injection eA with eA1 eA2
  subst eA1
  subst eA2
  simp only [Nat.zero_mul, Nat.add_zero] at hs0
  have hwN : IntKind.i64.wrap (N1 : Int) = N1 := IntWalk.i64_in _ (by omega)
  have hN2 : (N1 : Int) < N1 + 1 := by omega
  have HS0 := Lib.hid hs0
  have HSL := Lib.hid hsl
  have HRUN := Lib.hid hr
  have hz := alloc_new w (.cells #[.int .i64 0, .slice (some ⟨S, 0, none⟩) 1 sc, .bool blk] 42)
  have hbz : Below w.heap.size w (w.alloc (.cells #[.int .i64 0, .slice (some ⟨S, 0, none⟩) 1 sc, .bool blk] 42)) := bl_alloc (Below.refl _ _) _
  obtain ⟨x0, x1, x2⟩ := three_of hz
  have hmk : ∀ W : World, (Instr.makeSlice 63 (.int .i64 2) (.int .i64 2)).run Try.prog W = .ok (.slice (some ⟨W.heap.size, 0, none⟩) 2 2) (W.alloc (.cells #[.slice none 0 0, .slice none 0 0] 36 (0, 0))) := fun W => make_evs 2 (by decide) W
  obtain ⟨i0, hi, hz0, hz1, hz2⟩ := info_parts infoEv
  have HZ := Lib.hid hz
  have HBZ := Lib.hid hbz
  clear hh h0 hl hr hz hbz hs0 hsl
  go_enter Try.func53, Try.ntmps53
  have y1 : ((w.alloc (.cells #[.int .i64 0, .slice (some ⟨S, 0, none⟩) 1 sc, .bool blk] 42)).alloc (.cells #[.slice none 0 0, .slice none 0 0] 36 (0, 0))).cell? ⟨w.heap.size, 1, none⟩ = some (.slice (some ⟨S, 0, none⟩) 1 sc) := (three_of (alloc_old HZ.out _)).2.1
  go_wp2_with fail
  have HX0 : Hid (((w.alloc (.cells #[.int .i64 0, .slice (some ⟨S, 0, none⟩) 1 sc, .bool blk] 42)).alloc (.cells #[.slice none 0 0, .slice none 0 0] 36 (0, 0))).heap[w.heap.size + 1]? = some (.cells #[.slice none 0 0, .slice none 0 0] 36 (0, 0))) := Lib.hid (alloc_at (by simp) _)
  have HB0 := Lib.hid (bl_alloc HBZ.out (.cells #[.slice none 0 0, .slice none 0 0] 36 (0, 0)))
  obtain ⟨X, hX⟩ : ∃ X, X = w.heap.size + 1 := ⟨_, rfl⟩
  have HXL : Hid (w.heap.size ≤ X) := Lib.hid (by omega)
  have HXN : Hid True := Lib.hid trivial
  rw [← hX] at HX0
  try rw [← hX]
  clear hX x0 x1 x2 y1 hmk
  generalize (w.alloc (.cells #[.int .i64 0, .slice (some ⟨S, 0, none⟩) 1 sc, .bool blk] 42)).alloc (.cells #[.slice none 0 0, .slice none 0 0] 36 (0, 0)) = wa at *
  go_loopw [22] (fun i wr => (i = .int .i64 0 ∧ wr = wa) ∨ (i = .int .i64 1 ∧ ∃ g0 c0, wr.heap[X]? = some (.cells (([.slice none 0 0, .slice none 0 0] : List Value).set 0 (.slice (some ⟨g0, 0, none⟩) 1 c0)).toArray 36 (0, 0)) ∧ wr.ownsRow w.heap.size 53 6 (.slice (some ⟨g0, 0, none⟩) 1 c0) 1 ([] ++ e0.cells) ∧ Below w.heap.size w wr)) (fun i _ => 1 - (intOf i).toNat)
  case atStart => exact .inl ⟨rfl, rfl⟩
  case round =>
    rcases hrel with ⟨rfl, rfl⟩ | ⟨rfl, g0, c0, hX1, hO1, hB1⟩
    · have s0 := (HRUN.out.below HB0.out).c
      go_wp2_with fail
      obtain ⟨wq, hwq⟩ : ∃ wq, wq = wr := ⟨_, rfl⟩
      subst hwq
      go_loopw [29] (fun i wx => (i = .int .i64 0 ∧ wx = wq) ∨ (i = .int .i64 1 ∧ ∃ g0 c0, wx.heap[X]? = some (.cells (([.slice none 0 0, .slice none 0 0] : List Value).set 0 (.slice (some ⟨g0, 0, none⟩) 1 c0)).toArray 36 (0, 0)) ∧ wx.ownsRow w.heap.size 53 6 (.slice (some ⟨g0, 0, none⟩) 1 c0) 1 ([] ++ e0.cells) ∧ Below w.heap.size w wx)) (fun i _ => 1 - (intOf i).toNat)
      case atStart => exact .inl ⟨rfl, rfl⟩
      case round =>
        rcases hrel with ⟨rfl, rfl⟩ | ⟨rfl, g0, c0, hX1, hO1, hB1⟩
        · have k0 := (HRUN.out.below HB0.out).k
          go_wp2_with fail
          obtain ⟨w0, hw0⟩ : ∃ w0, w0 = wr := ⟨_, rfl⟩
          subst hw0
          have HX1 : Hid (w0.drew.heap[X]? = some (.cells ([.slice none 0 0, .slice none 0 0] : List Value).toArray 36 (0, 0))) := Lib.hid HX0.out
          have HB1 := Lib.hid (bl_drew HB0.out)
          have HO1 : Hid (w0.drew.ownsRow w.heap.size 53 6 (.slice none 0 0) 0 []) := Lib.hid ⟨rfl, .inl ⟨rfl, rfl⟩⟩
          have HS := HS0
          have yd := HS.out _ HB1.out
          clear s0 k0 HX0 HB0
          refine wp_region_held_drew (S := fun w' => w'.cell? ⟨hb, off, none⟩ = some (.int .i64 e0.typ) ∧ w'.cell? ⟨hb, off + 1, none⟩ = some (.int .i64 e0.key) ∧ w'.cell? ⟨hb, off + 2, none⟩ = some (.int .i64 e0.a) ∧ w'.cell? ⟨hb, off + 3, none⟩ = some (.int .i64 e0.b) ∧ w'.cell? ⟨hb, off + 4, none⟩ = some (.int .i64 e0.c) ∧ w'.cell? ⟨hb, off + 5, none⟩ = some (.int .i64 e0.d)) (by kernel_rfl) yd (fun hHeld => ?_)
          generalize w0.drew = w1 at *
          have c7 : w1.cell? ⟨X, 0, none⟩ = some (.slice none 0 0) := cell_of_blk HX1.out 0
          have hx3 : (w1.alloc (.cells #[.int .i64 e0.typ, .int .i64 e0.key, .int .i64 e0.a, .int .i64 e0.b, .int .i64 e0.c, .int .i64 e0.d] 53)).heap[X]? = some (.cells ([.slice none 0 0, .slice none 0 0] : List Value).toArray 36 (0, 0)) := alloc_old HX1.out _
          have c73 : (w1.alloc (.cells #[.int .i64 e0.typ, .int .i64 e0.key, .int .i64 e0.a, .int .i64 e0.b, .int .i64 e0.c, .int .i64 e0.d] 53)).cell? ⟨X, 0, none⟩ = some (.slice none 0 0) := cell_of_blk hx3 0
          have hb3 : Below w.heap.size w (w1.alloc (.cells #[.int .i64 e0.typ, .int .i64 e0.key, .int .i64 e0.a, .int .i64 e0.b, .int .i64 e0.c, .int .i64 e0.d] 53)) := bl_alloc HB1.out _
          have y3 := HS.out _ hb3
          have HX3 := Lib.hid hx3
          have HB3 := Lib.hid hb3
          have HO3 : Hid ((w1.alloc (.cells #[.int .i64 e0.typ, .int .i64 e0.key, .int .i64 e0.a, .int .i64 e0.b, .int .i64 e0.c, .int .i64 e0.d] 53)).ownsRow w.heap.size 53 6 (.slice none 0 0) 0 []) := Lib.hid (own_below HO1.out (bl_alloc (Below.refl _ _) _))
          have HN3 : Hid ((w1.alloc (.cells #[.int .i64 e0.typ, .int .i64 e0.key, .int .i64 e0.a, .int .i64 e0.b, .int .i64 e0.c, .int .i64 e0.d] 53)).heap[w1.heap.size]? = some (.cells #[.int .i64 e0.typ, .int .i64 e0.key, .int .i64 e0.a, .int .i64 e0.b, .int .i64 e0.c, .int .i64 e0.d] 53 (0, 0))) := Lib.hid (alloc_new _ _)
          have HLO3 : Hid (w.heap.size ≤ (w1.alloc (.cells #[.int .i64 e0.typ, .int .i64 e0.key, .int .i64 e0.a, .int .i64 e0.b, .int .i64 e0.c, .int .i64 e0.d] 53)).heap.size) := Lib.hid hb3.size
          clear hx3 hb3
          refine' wpAnyH_take (i := 0) (oi := ⟨some 33, _, _, _, _, _⟩) (v := ?v25) rfl (by kernel_rfl) (by kernel_rfl) (by kernel_rfl) (fun _ _ _ h => h) (Or.inl ⟨by rfl, ?hy25⟩) hHeld ?rest25
          case hy25 => (intro W hSw; go_simp; first | done | with_reducible rfl)
          simp only [Act.put, List.setIfInBounds_toArray, List.set_cons_zero, List.set_cons_succ]
          refine' wpAnyH_take (i := 1) (oi := ⟨some 34, _, _, _, _, _⟩) (v := ?v26) rfl (by kernel_rfl) (by kernel_rfl) (by kernel_rfl) (fun _ _ _ h => h) (Or.inl ⟨by rfl, ?hy26⟩) hHeld ?rest26
          case hy26 => (intro W hSw; go_simp; first | done | with_reducible rfl)
          simp only [Act.put, List.setIfInBounds_toArray, List.set_cons_zero, List.set_cons_succ]
          refine' wpAnyH_take (i := 2) (oi := ⟨some 35, _, _, _, _, _⟩) (v := ?v27) rfl (by kernel_rfl) (by kernel_rfl) (by kernel_rfl) (fun _ _ _ h => h) (Or.inl ⟨by rfl, ?hy27⟩) hHeld ?rest27
          case hy27 => (intro W hSw; go_simp; first | done | with_reducible rfl)
          simp only [Act.put, List.setIfInBounds_toArray, List.set_cons_zero, List.set_cons_succ]
          refine' wpAnyH_take (i := 3) (oi := ⟨some 36, _, _, _, _, _⟩) (v := ?v28) rfl (by kernel_rfl) (by kernel_rfl) (by kernel_rfl) (fun _ _ _ h => h) (Or.inl ⟨by rfl, ?hy28⟩) hHeld ?rest28
          case hy28 => (intro W hSw; go_simp; first | done | with_reducible rfl)
          simp only [Act.put, List.setIfInBounds_toArray, List.set_cons_zero, List.set_cons_succ]
          refine' wpAnyH_take (i := 4) (oi := ⟨some 37, _, _, _, _, _⟩) (v := ?v29) rfl (by kernel_rfl) (by kernel_rfl) (by kernel_rfl) (fun _ _ _ h => h) (Or.inl ⟨by rfl, ?hy29⟩) hHeld ?rest29
          case hy29 => (intro W hSw; go_simp; first | done | with_reducible rfl)
          simp only [Act.put, List.setIfInBounds_toArray, List.set_cons_zero, List.set_cons_succ]
          refine' wpAnyH_take (i := 6) (oi := ⟨some 39, _, _, _, _, _⟩) (v := ?v30) rfl (by kernel_rfl) (by kernel_rfl) (by kernel_rfl) (fun _ _ _ h => h) (Or.inl ⟨by rfl, ?hy30⟩) hHeld ?rest30
          case hy30 => (intro W hSw; go_simp; first | done | with_reducible rfl)
          simp only [Act.put, List.setIfInBounds_toArray, List.set_cons_zero, List.set_cons_succ]
          refine' wpAnyH_take (i := 7) (oi := ⟨some 40, _, _, _, _, _⟩) (v := ?v31) rfl (by kernel_rfl) (by kernel_rfl) (by kernel_rfl) (fun _ _ _ h => h) (Or.inl ⟨by rfl, ?hy31⟩) hHeld ?rest31
          case hy31 => (intro W hSw; go_simp; first | done | with_reducible rfl)
          simp only [Act.put, List.setIfInBounds_toArray, List.set_cons_zero, List.set_cons_succ]
          refine' wpAnyH_take (i := 8) (oi := ⟨some 41, _, _, _, _, _⟩) (v := ?v32) rfl (by kernel_rfl) (by kernel_rfl) (by kernel_rfl) (fun _ _ _ h => h) (Or.inl ⟨by rfl, ?hy32⟩) hHeld ?rest32
          case hy32 => (intro W hSw; go_simp; first | done | with_reducible rfl)
          simp only [Act.put, List.setIfInBounds_toArray, List.set_cons_zero, List.set_cons_succ]
          refine' wpAnyH_take (i := 9) (oi := ⟨some 42, _, _, _, _, _⟩) (v := ?v33) rfl (by kernel_rfl) (by kernel_rfl) (by kernel_rfl) (fun _ _ _ h => h) (Or.inl ⟨by rfl, ?hy33⟩) hHeld ?rest33
          case hy33 => (intro W hSw; go_simp; first | done | with_reducible rfl)
          simp only [Act.put, List.setIfInBounds_toArray, List.set_cons_zero, List.set_cons_succ]
          refine wpAnyH_ready (rs := [5, 10]) (by kernel_rfl) (by simp) ?_
          refine AllReadyH.cons (o := ⟨some 38, _, _, _, _, _⟩) rfl (fun K hK => ?_) (AllReadyH.cons (o := ⟨some 43, _, _, _, _, _⟩) rfl (fun K hK => ?_) AllReadyH.nil)
          · go_simp
            refine hK.out _ _ hHeld (fun hHeld => ?_)
            clear hK K
            try simp only [Act.put, List.setIfInBounds_toArray, List.set_cons_zero, List.set_cons_succ]
            refine wpAnyH_ready (rs := [10]) (by kernel_rfl) (by simp) ?_
            refine AllReadyH.cons (o := ⟨some 43, _, _, _, _, _⟩) rfl (fun K hK => ?_) AllReadyH.nil
            go_simp
            refine hK.out _ _ y3 (fun hHeld => ?_)
            clear hK K
            try simp only [Act.put, List.setIfInBounds_toArray, List.set_cons_zero, List.set_cons_succ]
            refine wpAnyH_ready (rs := [11]) (by kernel_rfl) (by simp) ?_
            refine AllReadyH.cons (o := ⟨some 44, _, _, _, _, _⟩) rfl (fun K hK => ?_) AllReadyH.nil
            refine step_append_lies _ (by rfl) _ _ _ (by rfl) w.heap.size 53 i0 _ 6 48 Try.underlying36 hi hz0 hz1 hz2 rfl (by decide) (.slice none 0 0) 0 [] (by rfl) HO3.out ⟨w1.heap.size, 0, none⟩ 1 1 (Ev.cells e0) (by rfl) (by rfl) (World.news_of_block (cs := #[.int .i64 e0.typ, .int .i64 e0.key, .int .i64 e0.a, .int .i64 e0.b, .int .i64 e0.c, .int .i64 e0.d]) (t := 53) (fr := (0, 0)) HN3.out) (by simp [Ev.cells, Value.oneCell']) (by decide) (by simp only [maxLen]; omega) (by omega) HLO3.out _ rfl ?_
            intro g cap w7 hown hgr hat hlt7
            obtain ⟨hX7, hx7, hown8, hb8⟩ := row_step (i := 0) HX3.out HXL.out HO3.out hown hgr HB3.out HXN.out
            have y7 := HS.out _ hx7
            have y8 := HS.out _ hb8
            have c7' : w7.cell? ⟨X, 0, none⟩ = some (.slice none 0 0) := cell_of_blk hX7 0
            have f7' : w7.frozen? ⟨X, 0, none⟩ = false := free_of_blk hX7 0
            have HO8 := Lib.hid hown8
            have HB8 := Lib.hid hb8
            have hx8 := setCell_same hX7 (i := 0) (.slice (some ⟨g, 0, none⟩) (0 + 1) cap)
            have HX8 := Lib.hid hx8
            have HGR := Lib.hid hgr
            clear hown hgr hat hlt7 hX7 hx7 hown8 hb8 hx8
            refine hK.out _ _ y7 (fun hHeld => ?_)
            clear hK K
            try simp only [Act.put, List.setIfInBounds_toArray, List.set_cons_zero, List.set_cons_succ]
            refine' wpAnyH_take (i := 12) (oi := ⟨some 45, _, _, _, _, _⟩) (v := ?v34) rfl (by kernel_rfl) (by kernel_rfl) (by kernel_rfl) (fun _ _ _ h => h) (Or.inl ⟨by rfl, ?hy34⟩) hHeld ?rest34
            case hy34 => (intro W hSw; go_simp; first | done | with_reducible rfl)
            simp only [Act.put, List.setIfInBounds_toArray, List.set_cons_zero, List.set_cons_succ]
            refine wpAnyH_ready (rs := [13]) (by kernel_rfl) (by simp) ?_
            refine AllReadyH.cons (o := ⟨none, _, _, _, _, _⟩) rfl (fun K hK => ?_) AllReadyH.nil
            go_simp
            refine hK.out _ _ y8 (fun hHeld => ?_)
            clear hK K
            try simp only [Act.put, List.setIfInBounds_toArray, List.set_cons_zero, List.set_cons_succ]
            refine wpAnyH_done (by kernel_rfl) ?_ _
            go_wp2_with fail
            go_roundw
            case rel => exact .inr ⟨rfl, g, cap, HX8.out, HO8.out, HB8.out⟩
            case measure => simp [intOf]
          · go_simp
            refine hK.out _ _ y3 (fun hHeld => ?_)
            clear hK K
            try simp only [Act.put, List.setIfInBounds_toArray, List.set_cons_zero, List.set_cons_succ]
            refine wpAnyH_ready (rs := [5]) (by kernel_rfl) (by simp) ?_
            refine AllReadyH.cons (o := ⟨some 38, _, _, _, _, _⟩) rfl (fun K hK => ?_) AllReadyH.nil
            go_simp
            refine hK.out _ _ hHeld (fun hHeld => ?_)
            clear hK K
            try simp only [Act.put, List.setIfInBounds_toArray, List.set_cons_zero, List.set_cons_succ]
            refine wpAnyH_ready (rs := [11]) (by kernel_rfl) (by simp) ?_
            refine AllReadyH.cons (o := ⟨some 44, _, _, _, _, _⟩) rfl (fun K hK => ?_) AllReadyH.nil
            refine step_append_lies _ (by rfl) _ _ _ (by rfl) w.heap.size 53 i0 _ 6 48 Try.underlying36 hi hz0 hz1 hz2 rfl (by decide) (.slice none 0 0) 0 [] (by rfl) HO3.out ⟨w1.heap.size, 0, none⟩ 1 1 (Ev.cells e0) (by rfl) (by rfl) (World.news_of_block (cs := #[.int .i64 e0.typ, .int .i64 e0.key, .int .i64 e0.a, .int .i64 e0.b, .int .i64 e0.c, .int .i64 e0.d]) (t := 53) (fr := (0, 0)) HN3.out) (by simp [Ev.cells, Value.oneCell']) (by decide) (by simp only [maxLen]; omega) (by omega) HLO3.out _ rfl ?_
            intro g cap w7 hown hgr hat hlt7
            obtain ⟨hX7, hx7, hown8, hb8⟩ := row_step (i := 0) HX3.out HXL.out HO3.out hown hgr HB3.out HXN.out
            have y7 := HS.out _ hx7
            have y8 := HS.out _ hb8
            have c7' : w7.cell? ⟨X, 0, none⟩ = some (.slice none 0 0) := cell_of_blk hX7 0
            have f7' : w7.frozen? ⟨X, 0, none⟩ = false := free_of_blk hX7 0
            have HO8 := Lib.hid hown8
            have HB8 := Lib.hid hb8
            have hx8 := setCell_same hX7 (i := 0) (.slice (some ⟨g, 0, none⟩) (0 + 1) cap)
            have HX8 := Lib.hid hx8
            have HGR := Lib.hid hgr
            clear hown hgr hat hlt7 hX7 hx7 hown8 hb8 hx8
            refine hK.out _ _ y7 (fun hHeld => ?_)
            clear hK K
            try simp only [Act.put, List.setIfInBounds_toArray, List.set_cons_zero, List.set_cons_succ]
            refine' wpAnyH_take (i := 12) (oi := ⟨some 45, _, _, _, _, _⟩) (v := ?v35) rfl (by kernel_rfl) (by kernel_rfl) (by kernel_rfl) (fun _ _ _ h => h) (Or.inl ⟨by rfl, ?hy35⟩) hHeld ?rest35
            case hy35 => (intro W hSw; go_simp; first | done | with_reducible rfl)
            simp only [Act.put, List.setIfInBounds_toArray, List.set_cons_zero, List.set_cons_succ]
            refine wpAnyH_ready (rs := [13]) (by kernel_rfl) (by simp) ?_
            refine AllReadyH.cons (o := ⟨none, _, _, _, _, _⟩) rfl (fun K hK => ?_) AllReadyH.nil
            go_simp
            refine hK.out _ _ y8 (fun hHeld => ?_)
            clear hK K
            try simp only [Act.put, List.setIfInBounds_toArray, List.set_cons_zero, List.set_cons_succ]
            refine wpAnyH_done (by kernel_rfl) ?_ _
            go_wp2_with fail
            go_roundw
            case rel => exact .inr ⟨rfl, g, cap, HX8.out, HO8.out, HB8.out⟩
            case measure => simp [intOf]
        · have HXX := Lib.hid hX1
          have HOO := Lib.hid hO1
          have HBB := Lib.hid hB1
          clear hX1 hO1 hB1 s0
          go_wp2_with fail
          go_roundw
          case rel => exact .inr ⟨by simp, g0, c0, HXX.out, HOO.out, HBB.out⟩
          case measure => simp [intOf]
    · have HXX := Lib.hid hX1
      have HOO := Lib.hid hO1
      have HBB := Lib.hid hB1
      clear hX1 hO1 hB1
      go_wp2_with fail
      obtain ⟨w0, hw0⟩ : ∃ w0, w0 = wr := ⟨_, rfl⟩
      subst hw0
      have HX1 : Hid (w0.drew.heap[X]? = some (.cells ([.slice (some ⟨g0, 0, none⟩) 1 c0, .slice none 0 0] : List Value).toArray 36 (0, 0))) := Lib.hid HXX.out
      have HB1 := Lib.hid (bl_drew HBB.out)
      have HR1 : Hid (w0.drew.ownsRow w.heap.size 53 6 (.slice (some ⟨g0, 0, none⟩) 1 c0) 1 ([] ++ e0.cells)) := Lib.hid (own_below HOO.out (bl_drew (Below.refl _ _)))
      have HO1 : Hid (w0.drew.ownsRow w.heap.size 53 6 (.slice none 0 0) 0 []) := Lib.hid ⟨rfl, .inl ⟨rfl, rfl⟩⟩
      have HS := HSL
      have yd := HS.out _ HB1.out
      clear HX0 HB0 HXX HOO HBB
      refine wp_region_held_drew (S := fun w' => w'.cell? ⟨hb, off + N1 * 6, none⟩ = some (.int .i64 el.typ) ∧ w'.cell? ⟨hb, off + N1 * 6 + 1, none⟩ = some (.int .i64 el.key) ∧ w'.cell? ⟨hb, off + N1 * 6 + 2, none⟩ = some (.int .i64 el.a) ∧ w'.cell? ⟨hb, off + N1 * 6 + 3, none⟩ = some (.int .i64 el.b) ∧ w'.cell? ⟨hb, off + N1 * 6 + 4, none⟩ = some (.int .i64 el.c) ∧ w'.cell? ⟨hb, off + N1 * 6 + 5, none⟩ = some (.int .i64 el.d)) (by kernel_rfl) yd (fun hHeld => ?_)
      generalize w0.drew = w1 at *
      have c7 : w1.cell? ⟨X, 1, none⟩ = some (.slice none 0 0) := cell_of_blk HX1.out 1
      have hx3 : (w1.alloc (.cells #[.int .i64 el.typ, .int .i64 el.key, .int .i64 el.a, .int .i64 el.b, .int .i64 el.c, .int .i64 el.d] 53)).heap[X]? = some (.cells ([.slice (some ⟨g0, 0, none⟩) 1 c0, .slice none 0 0] : List Value).toArray 36 (0, 0)) := alloc_old HX1.out _
      have c73 : (w1.alloc (.cells #[.int .i64 el.typ, .int .i64 el.key, .int .i64 el.a, .int .i64 el.b, .int .i64 el.c, .int .i64 el.d] 53)).cell? ⟨X, 1, none⟩ = some (.slice none 0 0) := cell_of_blk hx3 1
      have hb3 : Below w.heap.size w (w1.alloc (.cells #[.int .i64 el.typ, .int .i64 el.key, .int .i64 el.a, .int .i64 el.b, .int .i64 el.c, .int .i64 el.d] 53)) := bl_alloc HB1.out _
      have y3 := HS.out _ hb3
      have HX3 := Lib.hid hx3
      have HB3 := Lib.hid hb3
      have HO3 : Hid ((w1.alloc (.cells #[.int .i64 el.typ, .int .i64 el.key, .int .i64 el.a, .int .i64 el.b, .int .i64 el.c, .int .i64 el.d] 53)).ownsRow w.heap.size 53 6 (.slice none 0 0) 0 []) := Lib.hid (own_below HO1.out (bl_alloc (Below.refl _ _) _))
      have HR3 := Lib.hid (own_below HR1.out (bl_alloc (Below.refl _ w1) (.cells #[.int .i64 el.typ, .int .i64 el.key, .int .i64 el.a, .int .i64 el.b, .int .i64 el.c, .int .i64 el.d] 53)))
      have HN3 : Hid ((w1.alloc (.cells #[.int .i64 el.typ, .int .i64 el.key, .int .i64 el.a, .int .i64 el.b, .int .i64 el.c, .int .i64 el.d] 53)).heap[w1.heap.size]? = some (.cells #[.int .i64 el.typ, .int .i64 el.key, .int .i64 el.a, .int .i64 el.b, .int .i64 el.c, .int .i64 el.d] 53 (0, 0))) := Lib.hid (alloc_new _ _)
      have HLO3 : Hid (w.heap.size ≤ (w1.alloc (.cells #[.int .i64 el.typ, .int .i64 el.key, .int .i64 el.a, .int .i64 el.b, .int .i64 el.c, .int .i64 el.d] 53)).heap.size) := Lib.hid hb3.size
      clear hx3 hb3
      refine' wpAnyH_take (i := 0) (oi := ⟨some 48, _, _, _, _, _⟩) (v := ?v36) rfl (by kernel_rfl) (by kernel_rfl) (by kernel_rfl) (fun _ _ _ h => h) (Or.inl ⟨by rfl, ?hy36⟩) hHeld ?rest36
      case hy36 => (intro W hSw; go_simp; first | done | with_reducible rfl)
      simp only [Act.put, List.setIfInBounds_toArray, List.set_cons_zero, List.set_cons_succ]
      refine' wpAnyH_take (i := 1) (oi := ⟨some 49, _, _, _, _, _⟩) (v := ?v37) rfl (by kernel_rfl) (by kernel_rfl) (by kernel_rfl) (fun _ _ _ h => h) (Or.inl ⟨by rfl, ?hy37⟩) hHeld ?rest37
      case hy37 => (intro W hSw; go_simp; first | done | with_reducible rfl)
      simp only [Act.put, List.setIfInBounds_toArray, List.set_cons_zero, List.set_cons_succ]
      refine' wpAnyH_take (i := 2) (oi := ⟨some 50, _, _, _, _, _⟩) (v := ?v38) rfl (by kernel_rfl) (by kernel_rfl) (by kernel_rfl) (fun _ _ _ h => h) (Or.inl ⟨by rfl, ?hy38⟩) hHeld ?rest38
      case hy38 => (intro W hSw; go_simp; first | done | with_reducible rfl)
      simp only [Act.put, List.setIfInBounds_toArray, List.set_cons_zero, List.set_cons_succ]
      refine' wpAnyH_take (i := 3) (oi := ⟨some 51, _, _, _, _, _⟩) (v := ?v39) rfl (by kernel_rfl) (by kernel_rfl) (by kernel_rfl) (fun _ _ _ h => h) (Or.inl ⟨by rfl, ?hy39⟩) hHeld ?rest39
      case hy39 => (intro W hSw; go_simp; first | done | with_reducible rfl)
      simp only [Act.put, List.setIfInBounds_toArray, List.set_cons_zero, List.set_cons_succ]
      refine' wpAnyH_take (i := 4) (oi := ⟨some 52, _, _, _, _, _⟩) (v := ?v40) rfl (by kernel_rfl) (by kernel_rfl) (by kernel_rfl) (fun _ _ _ h => h) (Or.inl ⟨by rfl, ?hy40⟩) hHeld ?rest40
      case hy40 => (intro W hSw; go_simp; first | done | with_reducible rfl)
      simp only [Act.put, List.setIfInBounds_toArray, List.set_cons_zero, List.set_cons_succ]
      refine' wpAnyH_take (i := 6) (oi := ⟨some 54, _, _, _, _, _⟩) (v := ?v41) rfl (by kernel_rfl) (by kernel_rfl) (by kernel_rfl) (fun _ _ _ h => h) (Or.inl ⟨by rfl, ?hy41⟩) hHeld ?rest41
      case hy41 => (intro W hSw; go_simp; first | done | with_reducible rfl)
      simp only [Act.put, List.setIfInBounds_toArray, List.set_cons_zero, List.set_cons_succ]
      refine' wpAnyH_take (i := 7) (oi := ⟨some 55, _, _, _, _, _⟩) (v := ?v42) rfl (by kernel_rfl) (by kernel_rfl) (by kernel_rfl) (fun _ _ _ h => h) (Or.inl ⟨by rfl, ?hy42⟩) hHeld ?rest42
      case hy42 => (intro W hSw; go_simp; first | done | with_reducible rfl)
      simp only [Act.put, List.setIfInBounds_toArray, List.set_cons_zero, List.set_cons_succ]
      refine' wpAnyH_take (i := 8) (oi := ⟨some 56, _, _, _, _, _⟩) (v := ?v43) rfl (by kernel_rfl) (by kernel_rfl) (by kernel_rfl) (fun _ _ _ h => h) (Or.inl ⟨by rfl, ?hy43⟩) hHeld ?rest43
      case hy43 => (intro W hSw; go_simp; first | done | with_reducible rfl)
      simp only [Act.put, List.setIfInBounds_toArray, List.set_cons_zero, List.set_cons_succ]
      refine' wpAnyH_take (i := 9) (oi := ⟨some 57, _, _, _, _, _⟩) (v := ?v44) rfl (by kernel_rfl) (by kernel_rfl) (by kernel_rfl) (fun _ _ _ h => h) (Or.inl ⟨by rfl, ?hy44⟩) hHeld ?rest44
      case hy44 => (intro W hSw; go_simp; first | done | with_reducible rfl)
      simp only [Act.put, List.setIfInBounds_toArray, List.set_cons_zero, List.set_cons_succ]
      refine' wpAnyH_take (i := 10) (oi := ⟨some 58, _, _, _, _, _⟩) (v := ?v45) rfl (by kernel_rfl) (by kernel_rfl) (by kernel_rfl) (fun _ _ _ h => h) (Or.inl ⟨by rfl, ?hy45⟩) hHeld ?rest45
      case hy45 => (intro W hSw; go_simp; first | done | with_reducible rfl)
      simp only [Act.put, List.setIfInBounds_toArray, List.set_cons_zero, List.set_cons_succ]
      refine' wpAnyH_take (i := 11) (oi := ⟨some 59, _, _, _, _, _⟩) (v := ?v46) rfl (by kernel_rfl) (by kernel_rfl) (by kernel_rfl) (fun _ _ _ h => h) (Or.inl ⟨by rfl, ?hy46⟩) hHeld ?rest46
      case hy46 => (intro W hSw; go_simp; first | done | with_reducible rfl)
      simp only [Act.put, List.setIfInBounds_toArray, List.set_cons_zero, List.set_cons_succ]
      refine wpAnyH_ready (rs := [5, 12]) (by kernel_rfl) (by simp) ?_
      refine AllReadyH.cons (o := ⟨some 53, _, _, _, _, _⟩) rfl (fun K hK => ?_) (AllReadyH.cons (o := ⟨some 60, _, _, _, _, _⟩) rfl (fun K hK => ?_) AllReadyH.nil)
      · go_simp
        refine hK.out _ _ hHeld (fun hHeld => ?_)
        clear hK K
        try simp only [Act.put, List.setIfInBounds_toArray, List.set_cons_zero, List.set_cons_succ]
        refine wpAnyH_ready (rs := [12]) (by kernel_rfl) (by simp) ?_
        refine AllReadyH.cons (o := ⟨some 60, _, _, _, _, _⟩) rfl (fun K hK => ?_) AllReadyH.nil
        go_simp
        refine hK.out _ _ y3 (fun hHeld => ?_)
        clear hK K
        try simp only [Act.put, List.setIfInBounds_toArray, List.set_cons_zero, List.set_cons_succ]
        refine wpAnyH_ready (rs := [13]) (by kernel_rfl) (by simp) ?_
        refine AllReadyH.cons (o := ⟨some 61, _, _, _, _, _⟩) rfl (fun K hK => ?_) AllReadyH.nil
        refine step_append_lies _ (by rfl) _ _ _ (by rfl) w.heap.size 53 i0 _ 6 48 Try.underlying36 hi hz0 hz1 hz2 rfl (by decide) (.slice none 0 0) 0 [] (by rfl) HO3.out ⟨w1.heap.size, 0, none⟩ 1 1 (Ev.cells el) (by rfl) (by rfl) (World.news_of_block (cs := #[.int .i64 el.typ, .int .i64 el.key, .int .i64 el.a, .int .i64 el.b, .int .i64 el.c, .int .i64 el.d]) (t := 53) (fr := (0, 0)) HN3.out) (by simp [Ev.cells, Value.oneCell']) (by decide) (by simp only [maxLen]; omega) (by omega) HLO3.out _ rfl ?_
        intro g cap w7 hown hgr hat hlt7
        obtain ⟨hX7, hx7, hown8, hb8⟩ := row_step (i := 1) HX3.out HXL.out HO3.out hown hgr HB3.out HXN.out
        have y7 := HS.out _ hx7
        have y8 := HS.out _ hb8
        have c7' : w7.cell? ⟨X, 1, none⟩ = some (.slice none 0 0) := cell_of_blk hX7 1
        have f7' : w7.frozen? ⟨X, 1, none⟩ = false := free_of_blk hX7 1
        have HO8 := Lib.hid hown8
        have HX7 := Lib.hid hX7
        have HB8 := Lib.hid hb8
        have hx8 := setCell_same hX7 (i := 1) (.slice (some ⟨g, 0, none⟩) (0 + 1) cap)
        have HX8 := Lib.hid hx8
        have HGR := Lib.hid hgr
        clear hown hgr hat hlt7 hX7 hx7 hown8 hb8 hx8
        refine hK.out _ _ y7 (fun hHeld => ?_)
        clear hK K
        try simp only [Act.put, List.setIfInBounds_toArray, List.set_cons_zero, List.set_cons_succ]
        refine' wpAnyH_take (i := 14) (oi := ⟨some 62, _, _, _, _, _⟩) (v := ?v47) rfl (by kernel_rfl) (by kernel_rfl) (by kernel_rfl) (fun _ _ _ h => h) (Or.inl ⟨by rfl, ?hy47⟩) hHeld ?rest47
        case hy47 => (intro W hSw; go_simp; first | done | with_reducible rfl)
        simp only [Act.put, List.setIfInBounds_toArray, List.set_cons_zero, List.set_cons_succ]
        refine wpAnyH_ready (rs := [15]) (by kernel_rfl) (by simp) ?_
        refine AllReadyH.cons (o := ⟨none, _, _, _, _, _⟩) rfl (fun K hK => ?_) AllReadyH.nil
        go_simp
        refine hK.out _ _ y8 (fun hHeld => ?_)
        clear hK K
        try simp only [Act.put, List.setIfInBounds_toArray, List.set_cons_zero, List.set_cons_succ]
        refine wpAnyH_done (by kernel_rfl) ?_ _
        go_wp2_with fail
        go_ret
        refine ⟨X, rfl, ?_, HB8.out⟩
        have hr0 := row_other (i := 1) (y := .slice (some ⟨g, 0, none⟩) (0 + 1) cap) HR3.out HGR.out HX7.out
        refine ⟨rfl, fun _ => ⟨X, 0, rfl, block_lt HX8.out, fun i hi => ?_⟩⟩
        have hi2 : i = 0 ∨ i = 1 := by omega
        rcases hi2 with rfl | rfl
        · exact ⟨_, _, cell_of_blk HX8.out 0, EvsAt.of_own (es := [e0]) hr0⟩
        · exact ⟨_, _, cell_of_blk HX8.out 1, EvsAt.of_own (es := [el]) HO8.out⟩
      · go_simp
        refine hK.out _ _ y3 (fun hHeld => ?_)
        clear hK K
        try simp only [Act.put, List.setIfInBounds_toArray, List.set_cons_zero, List.set_cons_succ]
        refine wpAnyH_ready (rs := [5]) (by kernel_rfl) (by simp) ?_
        refine AllReadyH.cons (o := ⟨some 53, _, _, _, _, _⟩) rfl (fun K hK => ?_) AllReadyH.nil
        go_simp
        refine hK.out _ _ hHeld (fun hHeld => ?_)
        clear hK K
        try simp only [Act.put, List.setIfInBounds_toArray, List.set_cons_zero, List.set_cons_succ]
        refine wpAnyH_ready (rs := [13]) (by kernel_rfl) (by simp) ?_
        refine AllReadyH.cons (o := ⟨some 61, _, _, _, _, _⟩) rfl (fun K hK => ?_) AllReadyH.nil
        refine step_append_lies _ (by rfl) _ _ _ (by rfl) w.heap.size 53 i0 _ 6 48 Try.underlying36 hi hz0 hz1 hz2 rfl (by decide) (.slice none 0 0) 0 [] (by rfl) HO3.out ⟨w1.heap.size, 0, none⟩ 1 1 (Ev.cells el) (by rfl) (by rfl) (World.news_of_block (cs := #[.int .i64 el.typ, .int .i64 el.key, .int .i64 el.a, .int .i64 el.b, .int .i64 el.c, .int .i64 el.d]) (t := 53) (fr := (0, 0)) HN3.out) (by simp [Ev.cells, Value.oneCell']) (by decide) (by simp only [maxLen]; omega) (by omega) HLO3.out _ rfl ?_
        intro g cap w7 hown hgr hat hlt7
        obtain ⟨hX7, hx7, hown8, hb8⟩ := row_step (i := 1) HX3.out HXL.out HO3.out hown hgr HB3.out HXN.out
        have y7 := HS.out _ hx7
        have y8 := HS.out _ hb8
        have c7' : w7.cell? ⟨X, 1, none⟩ = some (.slice none 0 0) := cell_of_blk hX7 1
        have f7' : w7.frozen? ⟨X, 1, none⟩ = false := free_of_blk hX7 1
        have HO8 := Lib.hid hown8
        have HX7 := Lib.hid hX7
        have HB8 := Lib.hid hb8
        have hx8 := setCell_same hX7 (i := 1) (.slice (some ⟨g, 0, none⟩) (0 + 1) cap)
        have HX8 := Lib.hid hx8
        have HGR := Lib.hid hgr
        clear hown hgr hat hlt7 hX7 hx7 hown8 hb8 hx8
        refine hK.out _ _ y7 (fun hHeld => ?_)
        clear hK K
        try simp only [Act.put, List.setIfInBounds_toArray, List.set_cons_zero, List.set_cons_succ]
        refine' wpAnyH_take (i := 14) (oi := ⟨some 62, _, _, _, _, _⟩) (v := ?v48) rfl (by kernel_rfl) (by kernel_rfl) (by kernel_rfl) (fun _ _ _ h => h) (Or.inl ⟨by rfl, ?hy48⟩) hHeld ?rest48
        case hy48 => (intro W hSw; go_simp; first | done | with_reducible rfl)
        simp only [Act.put, List.setIfInBounds_toArray, List.set_cons_zero, List.set_cons_succ]
        refine wpAnyH_ready (rs := [15]) (by kernel_rfl) (by simp) ?_
        refine AllReadyH.cons (o := ⟨none, _, _, _, _, _⟩) rfl (fun K hK => ?_) AllReadyH.nil
        go_simp
        refine hK.out _ _ y8 (fun hHeld => ?_)
        clear hK K
        try simp only [Act.put, List.setIfInBounds_toArray, List.set_cons_zero, List.set_cons_succ]
        refine wpAnyH_done (by kernel_rfl) ?_ _
        go_wp2_with fail
        go_ret
        refine ⟨X, rfl, ?_, HB8.out⟩
        have hr0 := row_other (i := 1) (y := .slice (some ⟨g, 0, none⟩) (0 + 1) cap) HR3.out HGR.out HX7.out
        refine ⟨rfl, fun _ => ⟨X, 0, rfl, block_lt HX8.out, fun i hi => ?_⟩⟩
        have hi2 : i = 0 ∨ i = 1 := by omega
        rcases hi2 with rfl | rfl
        · exact ⟨_, _, cell_of_blk HX8.out 0, EvsAt.of_own (es := [e0]) hr0⟩
        · exact ⟨_, _, cell_of_blk HX8.out 1, EvsAt.of_own (es := [el]) HO8.out⟩
set_option maxHeartbeats 16000000 in
set_option maxRecDepth 100000 in
theorem sets2 {w : World} {HA : Option Addr} {N1 hc S I io ic sc : Nat} {es : List Ev} (hh : EvsAt w HA (N1 + 1) es) (hN : N1 ≤ 100000) (e0 el : Ev) (h0 : es.getD 0 Ev.zero = e0) (hl : es.getD N1 Ev.zero = el) (hr : RunAt w S I io ic) (blk : Bool) :
    Calls Try.prog 53 #[.slice HA (N1 + 1) hc, .agg #[.int .i64 0, .slice (some ⟨S, 0, none⟩) 1 sc, .bool blk], .int .i64 2] w fun e w' => ∃ X, e = .returned (.slice (some ⟨X, 0, none⟩) 3 3) ∧ SetsAt w' (some ⟨X, 0, none⟩) 3 [[e0], [], [el]] ∧ Below w.heap.size w w' := by
  obtain ⟨hb, off, rfl, hs0⟩ := evs_at hh (i := 0) (by omega) e0 h0
  obtain ⟨hb', off', eA, hsl⟩ := evs_at hh (i := N1) (by omega) el hl
  injection eA with eA
  injection eA with eA1 eA2
  subst eA1
  subst eA2
  simp only [Nat.zero_mul, Nat.add_zero] at hs0
  have hwN : IntKind.i64.wrap (N1 : Int) = N1 := IntWalk.i64_in _ (by omega)
  have hN2 : (N1 : Int) < N1 + 1 := by omega
  have HS0 := Lib.hid hs0
  have HSL := Lib.hid hsl
  have HRUN := Lib.hid hr
  have hz := alloc_new w (.cells #[.int .i64 0, .slice (some ⟨S, 0, none⟩) 1 sc, .bool blk] 42)
  have hbz : Below w.heap.size w (w.alloc (.cells #[.int .i64 0, .slice (some ⟨S, 0, none⟩) 1 sc, .bool blk] 42)) := bl_alloc (Below.refl _ _) _
  obtain ⟨x0, x1, x2⟩ := three_of hz
  have hmk : ∀ W : World, (Instr.makeSlice 63 (.int .i64 3) (.int .i64 3)).run Try.prog W = .ok (.slice (some ⟨W.heap.size, 0, none⟩) 3 3) (W.alloc (.cells #[.slice none 0 0, .slice none 0 0, .slice none 0 0] 36 (0, 0))) := fun W => make_evs 3 (by decide) W
  obtain ⟨i0, hi, hz0, hz1, hz2⟩ := info_parts infoEv
  have HZ := Lib.hid hz
  have HBZ := Lib.hid hbz
  clear hh h0 hl hr hz hbz hs0 hsl
  go_enter Try.func53, Try.ntmps53
  have y1 : ((w.alloc (.cells #[.int .i64 0, .slice (some ⟨S, 0, none⟩) 1 sc, .bool blk] 42)).alloc (.cells #[.slice none 0 0, .slice none 0 0, .slice none 0 0] 36 (0, 0))).cell? ⟨w.heap.size, 1, none⟩ = some (.slice (some ⟨S, 0, none⟩) 1 sc) := (three_of (alloc_old HZ.out _)).2.1
  go_wp2_with fail
  have HX0 : Hid (((w.alloc (.cells #[.int .i64 0, .slice (some ⟨S, 0, none⟩) 1 sc, .bool blk] 42)).alloc (.cells #[.slice none 0 0, .slice none 0 0, .slice none 0 0] 36 (0, 0))).heap[w.heap.size + 1]? = some (.cells #[.slice none 0 0, .slice none 0 0, .slice none 0 0] 36 (0, 0))) := Lib.hid (alloc_at (by simp) _)
  have HB0 := Lib.hid (bl_alloc HBZ.out (.cells #[.slice none 0 0, .slice none 0 0, .slice none 0 0] 36 (0, 0)))
  obtain ⟨X, hX⟩ : ∃ X, X = w.heap.size + 1 := ⟨_, rfl⟩
  have HXL : Hid (w.heap.size ≤ X) := Lib.hid (by omega)
  have HXN : Hid True := Lib.hid trivial
  rw [← hX] at HX0
  try rw [← hX]
  clear hX x0 x1 x2 y1 hmk
  generalize (w.alloc (.cells #[.int .i64 0, .slice (some ⟨S, 0, none⟩) 1 sc, .bool blk] 42)).alloc (.cells #[.slice none 0 0, .slice none 0 0, .slice none 0 0] 36 (0, 0)) = wa at *
  go_loopw [22] (fun i wr => (i = .int .i64 0 ∧ wr = wa) ∨ (i = .int .i64 1 ∧ ∃ g0 c0, wr.heap[X]? = some (.cells (([.slice none 0 0, .slice none 0 0, .slice none 0 0] : List Value).set 0 (.slice (some ⟨g0, 0, none⟩) 1 c0)).toArray 36 (0, 0)) ∧ wr.ownsRow w.heap.size 53 6 (.slice (some ⟨g0, 0, none⟩) 1 c0) 1 ([] ++ e0.cells) ∧ Below w.heap.size w wr)) (fun i _ => 1 - (intOf i).toNat)
  case atStart => exact .inl ⟨rfl, rfl⟩
  case round =>
    rcases hrel with ⟨rfl, rfl⟩ | ⟨rfl, g0, c0, hX1, hO1, hB1⟩
    · have s0 := (HRUN.out.below HB0.out).c
      go_wp2_with fail
      obtain ⟨wq, hwq⟩ : ∃ wq, wq = wr := ⟨_, rfl⟩
      subst hwq
      go_loopw [29] (fun i wx => (i = .int .i64 0 ∧ wx = wq) ∨ (i = .int .i64 1 ∧ ∃ g0 c0, wx.heap[X]? = some (.cells (([.slice none 0 0, .slice none 0 0, .slice none 0 0] : List Value).set 0 (.slice (some ⟨g0, 0, none⟩) 1 c0)).toArray 36 (0, 0)) ∧ wx.ownsRow w.heap.size 53 6 (.slice (some ⟨g0, 0, none⟩) 1 c0) 1 ([] ++ e0.cells) ∧ Below w.heap.size w wx)) (fun i _ => 1 - (intOf i).toNat)
      case atStart => exact .inl ⟨rfl, rfl⟩
      case round =>
        rcases hrel with ⟨rfl, rfl⟩ | ⟨rfl, g0, c0, hX1, hO1, hB1⟩
        · have k0 := (HRUN.out.below HB0.out).k
          go_wp2_with fail
          obtain ⟨w0, hw0⟩ : ∃ w0, w0 = wr := ⟨_, rfl⟩
          subst hw0
          have HX1 : Hid (w0.drew.heap[X]? = some (.cells ([.slice none 0 0, .slice none 0 0, .slice none 0 0] : List Value).toArray 36 (0, 0))) := Lib.hid HX0.out
          have HB1 := Lib.hid (bl_drew HB0.out)
          have HO1 : Hid (w0.drew.ownsRow w.heap.size 53 6 (.slice none 0 0) 0 []) := Lib.hid ⟨rfl, .inl ⟨rfl, rfl⟩⟩
          have HS := HS0
          have yd := HS.out _ HB1.out
          clear s0 k0 HX0 HB0
          refine wp_region_held_drew (S := fun w' => w'.cell? ⟨hb, off, none⟩ = some (.int .i64 e0.typ) ∧ w'.cell? ⟨hb, off + 1, none⟩ = some (.int .i64 e0.key) ∧ w'.cell? ⟨hb, off + 2, none⟩ = some (.int .i64 e0.a) ∧ w'.cell? ⟨hb, off + 3, none⟩ = some (.int .i64 e0.b) ∧ w'.cell? ⟨hb, off + 4, none⟩ = some (.int .i64 e0.c) ∧ w'.cell? ⟨hb, off + 5, none⟩ = some (.int .i64 e0.d)) (by kernel_rfl) yd (fun hHeld => ?_)
          generalize w0.drew = w1 at *
          have c7 : w1.cell? ⟨X, 0, none⟩ = some (.slice none 0 0) := cell_of_blk HX1.out 0
          have hx3 : (w1.alloc (.cells #[.int .i64 e0.typ, .int .i64 e0.key, .int .i64 e0.a, .int .i64 e0.b, .int .i64 e0.c, .int .i64 e0.d] 53)).heap[X]? = some (.cells ([.slice none 0 0, .slice none 0 0, .slice none 0 0] : List Value).toArray 36 (0, 0)) := alloc_old HX1.out _
          have c73 : (w1.alloc (.cells #[.int .i64 e0.typ, .int .i64 e0.key, .int .i64 e0.a, .int .i64 e0.b, .int .i64 e0.c, .int .i64 e0.d] 53)).cell? ⟨X, 0, none⟩ = some (.slice none 0 0) := cell_of_blk hx3 0
          have hb3 : Below w.heap.size w (w1.alloc (.cells #[.int .i64 e0.typ, .int .i64 e0.key, .int .i64 e0.a, .int .i64 e0.b, .int .i64 e0.c, .int .i64 e0.d] 53)) := bl_alloc HB1.out _
          have y3 := HS.out _ hb3
          have HX3 := Lib.hid hx3
          have HB3 := Lib.hid hb3
          have HO3 : Hid ((w1.alloc (.cells #[.int .i64 e0.typ, .int .i64 e0.key, .int .i64 e0.a, .int .i64 e0.b, .int .i64 e0.c, .int .i64 e0.d] 53)).ownsRow w.heap.size 53 6 (.slice none 0 0) 0 []) := Lib.hid (own_below HO1.out (bl_alloc (Below.refl _ _) _))
          have HN3 : Hid ((w1.alloc (.cells #[.int .i64 e0.typ, .int .i64 e0.key, .int .i64 e0.a, .int .i64 e0.b, .int .i64 e0.c, .int .i64 e0.d] 53)).heap[w1.heap.size]? = some (.cells #[.int .i64 e0.typ, .int .i64 e0.key, .int .i64 e0.a, .int .i64 e0.b, .int .i64 e0.c, .int .i64 e0.d] 53 (0, 0))) := Lib.hid (alloc_new _ _)
          have HLO3 : Hid (w.heap.size ≤ (w1.alloc (.cells #[.int .i64 e0.typ, .int .i64 e0.key, .int .i64 e0.a, .int .i64 e0.b, .int .i64 e0.c, .int .i64 e0.d] 53)).heap.size) := Lib.hid hb3.size
          clear hx3 hb3
          refine' wpAnyH_take (i := 0) (oi := ⟨some 33, _, _, _, _, _⟩) (v := ?v49) rfl (by kernel_rfl) (by kernel_rfl) (by kernel_rfl) (fun _ _ _ h => h) (Or.inl ⟨by rfl, ?hy49⟩) hHeld ?rest49
          case hy49 => (intro W hSw; go_simp; first | done | with_reducible rfl)
          simp only [Act.put, List.setIfInBounds_toArray, List.set_cons_zero, List.set_cons_succ]
          refine' wpAnyH_take (i := 1) (oi := ⟨some 34, _, _, _, _, _⟩) (v := ?v50) rfl (by kernel_rfl) (by kernel_rfl) (by kernel_rfl) (fun _ _ _ h => h) (Or.inl ⟨by rfl, ?hy50⟩) hHeld ?rest50
          case hy50 => (intro W hSw; go_simp; first | done | with_reducible rfl)
          simp only [Act.put, List.setIfInBounds_toArray, List.set_cons_zero, List.set_cons_succ]
          refine' wpAnyH_take (i := 2) (oi := ⟨some 35, _, _, _, _, _⟩) (v := ?v51) rfl (by kernel_rfl) (by kernel_rfl) (by kernel_rfl) (fun _ _ _ h => h) (Or.inl ⟨by rfl, ?hy51⟩) hHeld ?rest51
          case hy51 => (intro W hSw; go_simp; first | done | with_reducible rfl)
          simp only [Act.put, List.setIfInBounds_toArray, List.set_cons_zero, List.set_cons_succ]
          refine' wpAnyH_take (i := 3) (oi := ⟨some 36, _, _, _, _, _⟩) (v := ?v52) rfl (by kernel_rfl) (by kernel_rfl) (by kernel_rfl) (fun _ _ _ h => h) (Or.inl ⟨by rfl, ?hy52⟩) hHeld ?rest52
          case hy52 => (intro W hSw; go_simp; first | done | with_reducible rfl)
          simp only [Act.put, List.setIfInBounds_toArray, List.set_cons_zero, List.set_cons_succ]
          refine' wpAnyH_take (i := 4) (oi := ⟨some 37, _, _, _, _, _⟩) (v := ?v53) rfl (by kernel_rfl) (by kernel_rfl) (by kernel_rfl) (fun _ _ _ h => h) (Or.inl ⟨by rfl, ?hy53⟩) hHeld ?rest53
          case hy53 => (intro W hSw; go_simp; first | done | with_reducible rfl)
          simp only [Act.put, List.setIfInBounds_toArray, List.set_cons_zero, List.set_cons_succ]
          refine' wpAnyH_take (i := 6) (oi := ⟨some 39, _, _, _, _, _⟩) (v := ?v54) rfl (by kernel_rfl) (by kernel_rfl) (by kernel_rfl) (fun _ _ _ h => h) (Or.inl ⟨by rfl, ?hy54⟩) hHeld ?rest54
          case hy54 => (intro W hSw; go_simp; first | done | with_reducible rfl)
          simp only [Act.put, List.setIfInBounds_toArray, List.set_cons_zero, List.set_cons_succ]
          refine' wpAnyH_take (i := 7) (oi := ⟨some 40, _, _, _, _, _⟩) (v := ?v55) rfl (by kernel_rfl) (by kernel_rfl) (by kernel_rfl) (fun _ _ _ h => h) (Or.inl ⟨by rfl, ?hy55⟩) hHeld ?rest55
          case hy55 => (intro W hSw; go_simp; first | done | with_reducible rfl)
          simp only [Act.put, List.setIfInBounds_toArray, List.set_cons_zero, List.set_cons_succ]
          refine' wpAnyH_take (i := 8) (oi := ⟨some 41, _, _, _, _, _⟩) (v := ?v56) rfl (by kernel_rfl) (by kernel_rfl) (by kernel_rfl) (fun _ _ _ h => h) (Or.inl ⟨by rfl, ?hy56⟩) hHeld ?rest56
          case hy56 => (intro W hSw; go_simp; first | done | with_reducible rfl)
          simp only [Act.put, List.setIfInBounds_toArray, List.set_cons_zero, List.set_cons_succ]
          refine' wpAnyH_take (i := 9) (oi := ⟨some 42, _, _, _, _, _⟩) (v := ?v57) rfl (by kernel_rfl) (by kernel_rfl) (by kernel_rfl) (fun _ _ _ h => h) (Or.inl ⟨by rfl, ?hy57⟩) hHeld ?rest57
          case hy57 => (intro W hSw; go_simp; first | done | with_reducible rfl)
          simp only [Act.put, List.setIfInBounds_toArray, List.set_cons_zero, List.set_cons_succ]
          refine wpAnyH_ready (rs := [5, 10]) (by kernel_rfl) (by simp) ?_
          refine AllReadyH.cons (o := ⟨some 38, _, _, _, _, _⟩) rfl (fun K hK => ?_) (AllReadyH.cons (o := ⟨some 43, _, _, _, _, _⟩) rfl (fun K hK => ?_) AllReadyH.nil)
          · go_simp
            refine hK.out _ _ hHeld (fun hHeld => ?_)
            clear hK K
            try simp only [Act.put, List.setIfInBounds_toArray, List.set_cons_zero, List.set_cons_succ]
            refine wpAnyH_ready (rs := [10]) (by kernel_rfl) (by simp) ?_
            refine AllReadyH.cons (o := ⟨some 43, _, _, _, _, _⟩) rfl (fun K hK => ?_) AllReadyH.nil
            go_simp
            refine hK.out _ _ y3 (fun hHeld => ?_)
            clear hK K
            try simp only [Act.put, List.setIfInBounds_toArray, List.set_cons_zero, List.set_cons_succ]
            refine wpAnyH_ready (rs := [11]) (by kernel_rfl) (by simp) ?_
            refine AllReadyH.cons (o := ⟨some 44, _, _, _, _, _⟩) rfl (fun K hK => ?_) AllReadyH.nil
            refine step_append_lies _ (by rfl) _ _ _ (by rfl) w.heap.size 53 i0 _ 6 48 Try.underlying36 hi hz0 hz1 hz2 rfl (by decide) (.slice none 0 0) 0 [] (by rfl) HO3.out ⟨w1.heap.size, 0, none⟩ 1 1 (Ev.cells e0) (by rfl) (by rfl) (World.news_of_block (cs := #[.int .i64 e0.typ, .int .i64 e0.key, .int .i64 e0.a, .int .i64 e0.b, .int .i64 e0.c, .int .i64 e0.d]) (t := 53) (fr := (0, 0)) HN3.out) (by simp [Ev.cells, Value.oneCell']) (by decide) (by simp only [maxLen]; omega) (by omega) HLO3.out _ rfl ?_
            intro g cap w7 hown hgr hat hlt7
            obtain ⟨hX7, hx7, hown8, hb8⟩ := row_step (i := 0) HX3.out HXL.out HO3.out hown hgr HB3.out HXN.out
            have y7 := HS.out _ hx7
            have y8 := HS.out _ hb8
            have c7' : w7.cell? ⟨X, 0, none⟩ = some (.slice none 0 0) := cell_of_blk hX7 0
            have f7' : w7.frozen? ⟨X, 0, none⟩ = false := free_of_blk hX7 0
            have HO8 := Lib.hid hown8
            have HB8 := Lib.hid hb8
            have hx8 := setCell_same hX7 (i := 0) (.slice (some ⟨g, 0, none⟩) (0 + 1) cap)
            have HX8 := Lib.hid hx8
            have HGR := Lib.hid hgr
            clear hown hgr hat hlt7 hX7 hx7 hown8 hb8 hx8
            refine hK.out _ _ y7 (fun hHeld => ?_)
            clear hK K
            try simp only [Act.put, List.setIfInBounds_toArray, List.set_cons_zero, List.set_cons_succ]
            refine' wpAnyH_take (i := 12) (oi := ⟨some 45, _, _, _, _, _⟩) (v := ?v58) rfl (by kernel_rfl) (by kernel_rfl) (by kernel_rfl) (fun _ _ _ h => h) (Or.inl ⟨by rfl, ?hy58⟩) hHeld ?rest58
            case hy58 => (intro W hSw; go_simp; first | done | with_reducible rfl)
            simp only [Act.put, List.setIfInBounds_toArray, List.set_cons_zero, List.set_cons_succ]
            refine wpAnyH_ready (rs := [13]) (by kernel_rfl) (by simp) ?_
            refine AllReadyH.cons (o := ⟨none, _, _, _, _, _⟩) rfl (fun K hK => ?_) AllReadyH.nil
            go_simp
            refine hK.out _ _ y8 (fun hHeld => ?_)
            clear hK K
            try simp only [Act.put, List.setIfInBounds_toArray, List.set_cons_zero, List.set_cons_succ]
            refine wpAnyH_done (by kernel_rfl) ?_ _
            go_wp2_with fail
            go_roundw
            case rel => exact .inr ⟨rfl, g, cap, HX8.out, HO8.out, HB8.out⟩
            case measure => simp [intOf]
          · go_simp
            refine hK.out _ _ y3 (fun hHeld => ?_)
            clear hK K
            try simp only [Act.put, List.setIfInBounds_toArray, List.set_cons_zero, List.set_cons_succ]
            refine wpAnyH_ready (rs := [5]) (by kernel_rfl) (by simp) ?_
            refine AllReadyH.cons (o := ⟨some 38, _, _, _, _, _⟩) rfl (fun K hK => ?_) AllReadyH.nil
            go_simp
            refine hK.out _ _ hHeld (fun hHeld => ?_)
            clear hK K
            try simp only [Act.put, List.setIfInBounds_toArray, List.set_cons_zero, List.set_cons_succ]
            refine wpAnyH_ready (rs := [11]) (by kernel_rfl) (by simp) ?_
            refine AllReadyH.cons (o := ⟨some 44, _, _, _, _, _⟩) rfl (fun K hK => ?_) AllReadyH.nil
            refine step_append_lies _ (by rfl) _ _ _ (by rfl) w.heap.size 53 i0 _ 6 48 Try.underlying36 hi hz0 hz1 hz2 rfl (by decide) (.slice none 0 0) 0 [] (by rfl) HO3.out ⟨w1.heap.size, 0, none⟩ 1 1 (Ev.cells e0) (by rfl) (by rfl) (World.news_of_block (cs := #[.int .i64 e0.typ, .int .i64 e0.key, .int .i64 e0.a, .int .i64 e0.b, .int .i64 e0.c, .int .i64 e0.d]) (t := 53) (fr := (0, 0)) HN3.out) (by simp [Ev.cells, Value.oneCell']) (by decide) (by simp only [maxLen]; omega) (by omega) HLO3.out _ rfl ?_
            intro g cap w7 hown hgr hat hlt7
            obtain ⟨hX7, hx7, hown8, hb8⟩ := row_step (i := 0) HX3.out HXL.out HO3.out hown hgr HB3.out HXN.out
            have y7 := HS.out _ hx7
            have y8 := HS.out _ hb8
            have c7' : w7.cell? ⟨X, 0, none⟩ = some (.slice none 0 0) := cell_of_blk hX7 0
            have f7' : w7.frozen? ⟨X, 0, none⟩ = false := free_of_blk hX7 0
            have HO8 := Lib.hid hown8
            have HB8 := Lib.hid hb8
            have hx8 := setCell_same hX7 (i := 0) (.slice (some ⟨g, 0, none⟩) (0 + 1) cap)
            have HX8 := Lib.hid hx8
            have HGR := Lib.hid hgr
            clear hown hgr hat hlt7 hX7 hx7 hown8 hb8 hx8
            refine hK.out _ _ y7 (fun hHeld => ?_)
            clear hK K
            try simp only [Act.put, List.setIfInBounds_toArray, List.set_cons_zero, List.set_cons_succ]
            refine' wpAnyH_take (i := 12) (oi := ⟨some 45, _, _, _, _, _⟩) (v := ?v59) rfl (by kernel_rfl) (by kernel_rfl) (by kernel_rfl) (fun _ _ _ h => h) (Or.inl ⟨by rfl, ?hy59⟩) hHeld ?rest59
            case hy59 => (intro W hSw; go_simp; first | done | with_reducible rfl)
            simp only [Act.put, List.setIfInBounds_toArray, List.set_cons_zero, List.set_cons_succ]
            refine wpAnyH_ready (rs := [13]) (by kernel_rfl) (by simp) ?_
            refine AllReadyH.cons (o := ⟨none, _, _, _, _, _⟩) rfl (fun K hK => ?_) AllReadyH.nil
            go_simp
            refine hK.out _ _ y8 (fun hHeld => ?_)
            clear hK K
            try simp only [Act.put, List.setIfInBounds_toArray, List.set_cons_zero, List.set_cons_succ]
            refine wpAnyH_done (by kernel_rfl) ?_ _
            go_wp2_with fail
            go_roundw
            case rel => exact .inr ⟨rfl, g, cap, HX8.out, HO8.out, HB8.out⟩
            case measure => simp [intOf]
        · have HXX := Lib.hid hX1
          have HOO := Lib.hid hO1
          have HBB := Lib.hid hB1
          clear hX1 hO1 hB1 s0
          go_wp2_with fail
          go_roundw
          case rel => exact .inr ⟨by simp, g0, c0, HXX.out, HOO.out, HBB.out⟩
          case measure => simp [intOf]
    · have HXX := Lib.hid hX1
      have HOO := Lib.hid hO1
      have HBB := Lib.hid hB1
      clear hX1 hO1 hB1
      go_wp2_with fail
      obtain ⟨w0, hw0⟩ : ∃ w0, w0 = wr := ⟨_, rfl⟩
      subst hw0
      have HX1 : Hid (w0.drew.heap[X]? = some (.cells ([.slice (some ⟨g0, 0, none⟩) 1 c0, .slice none 0 0, .slice none 0 0] : List Value).toArray 36 (0, 0))) := Lib.hid HXX.out
      have HB1 := Lib.hid (bl_drew HBB.out)
      have HR1 : Hid (w0.drew.ownsRow w.heap.size 53 6 (.slice (some ⟨g0, 0, none⟩) 1 c0) 1 ([] ++ e0.cells)) := Lib.hid (own_below HOO.out (bl_drew (Below.refl _ _)))
      have HO1 : Hid (w0.drew.ownsRow w.heap.size 53 6 (.slice none 0 0) 0 []) := Lib.hid ⟨rfl, .inl ⟨rfl, rfl⟩⟩
      have HS := HSL
      have yd := HS.out _ HB1.out
      clear HX0 HB0 HXX HOO HBB
      refine wp_region_held_drew (S := fun w' => w'.cell? ⟨hb, off + N1 * 6, none⟩ = some (.int .i64 el.typ) ∧ w'.cell? ⟨hb, off + N1 * 6 + 1, none⟩ = some (.int .i64 el.key) ∧ w'.cell? ⟨hb, off + N1 * 6 + 2, none⟩ = some (.int .i64 el.a) ∧ w'.cell? ⟨hb, off + N1 * 6 + 3, none⟩ = some (.int .i64 el.b) ∧ w'.cell? ⟨hb, off + N1 * 6 + 4, none⟩ = some (.int .i64 el.c) ∧ w'.cell? ⟨hb, off + N1 * 6 + 5, none⟩ = some (.int .i64 el.d)) (by kernel_rfl) yd (fun hHeld => ?_)
      generalize w0.drew = w1 at *
      have c7 : w1.cell? ⟨X, 2, none⟩ = some (.slice none 0 0) := cell_of_blk HX1.out 2
      have hx3 : (w1.alloc (.cells #[.int .i64 el.typ, .int .i64 el.key, .int .i64 el.a, .int .i64 el.b, .int .i64 el.c, .int .i64 el.d] 53)).heap[X]? = some (.cells ([.slice (some ⟨g0, 0, none⟩) 1 c0, .slice none 0 0, .slice none 0 0] : List Value).toArray 36 (0, 0)) := alloc_old HX1.out _
      have c73 : (w1.alloc (.cells #[.int .i64 el.typ, .int .i64 el.key, .int .i64 el.a, .int .i64 el.b, .int .i64 el.c, .int .i64 el.d] 53)).cell? ⟨X, 2, none⟩ = some (.slice none 0 0) := cell_of_blk hx3 2
      have hb3 : Below w.heap.size w (w1.alloc (.cells #[.int .i64 el.typ, .int .i64 el.key, .int .i64 el.a, .int .i64 el.b, .int .i64 el.c, .int .i64 el.d] 53)) := bl_alloc HB1.out _
      have y3 := HS.out _ hb3
      have HX3 := Lib.hid hx3
      have HB3 := Lib.hid hb3
      have HO3 : Hid ((w1.alloc (.cells #[.int .i64 el.typ, .int .i64 el.key, .int .i64 el.a, .int .i64 el.b, .int .i64 el.c, .int .i64 el.d] 53)).ownsRow w.heap.size 53 6 (.slice none 0 0) 0 []) := Lib.hid (own_below HO1.out (bl_alloc (Below.refl _ _) _))
      have HR3 := Lib.hid (own_below HR1.out (bl_alloc (Below.refl _ w1) (.cells #[.int .i64 el.typ, .int .i64 el.key, .int .i64 el.a, .int .i64 el.b, .int .i64 el.c, .int .i64 el.d] 53)))
      have HN3 : Hid ((w1.alloc (.cells #[.int .i64 el.typ, .int .i64 el.key, .int .i64 el.a, .int .i64 el.b, .int .i64 el.c, .int .i64 el.d] 53)).heap[w1.heap.size]? = some (.cells #[.int .i64 el.typ, .int .i64 el.key, .int .i64 el.a, .int .i64 el.b, .int .i64 el.c, .int .i64 el.d] 53 (0, 0))) := Lib.hid (alloc_new _ _)
      have HLO3 : Hid (w.heap.size ≤ (w1.alloc (.cells #[.int .i64 el.typ, .int .i64 el.key, .int .i64 el.a, .int .i64 el.b, .int .i64 el.c, .int .i64 el.d] 53)).heap.size) := Lib.hid hb3.size
      clear hx3 hb3
      refine' wpAnyH_take (i := 0) (oi := ⟨some 48, _, _, _, _, _⟩) (v := ?v60) rfl (by kernel_rfl) (by kernel_rfl) (by kernel_rfl) (fun _ _ _ h => h) (Or.inl ⟨by rfl, ?hy60⟩) hHeld ?rest60
      case hy60 => (intro W hSw; go_simp; first | done | with_reducible rfl)
      simp only [Act.put, List.setIfInBounds_toArray, List.set_cons_zero, List.set_cons_succ]
      refine' wpAnyH_take (i := 1) (oi := ⟨some 49, _, _, _, _, _⟩) (v := ?v61) rfl (by kernel_rfl) (by kernel_rfl) (by kernel_rfl) (fun _ _ _ h => h) (Or.inl ⟨by rfl, ?hy61⟩) hHeld ?rest61
      case hy61 => (intro W hSw; go_simp; first | done | with_reducible rfl)
      simp only [Act.put, List.setIfInBounds_toArray, List.set_cons_zero, List.set_cons_succ]
      refine' wpAnyH_take (i := 2) (oi := ⟨some 50, _, _, _, _, _⟩) (v := ?v62) rfl (by kernel_rfl) (by kernel_rfl) (by kernel_rfl) (fun _ _ _ h => h) (Or.inl ⟨by rfl, ?hy62⟩) hHeld ?rest62
      case hy62 => (intro W hSw; go_simp; first | done | with_reducible rfl)
      simp only [Act.put, List.setIfInBounds_toArray, List.set_cons_zero, List.set_cons_succ]
      refine' wpAnyH_take (i := 3) (oi := ⟨some 51, _, _, _, _, _⟩) (v := ?v63) rfl (by kernel_rfl) (by kernel_rfl) (by kernel_rfl) (fun _ _ _ h => h) (Or.inl ⟨by rfl, ?hy63⟩) hHeld ?rest63
      case hy63 => (intro W hSw; go_simp; first | done | with_reducible rfl)
      simp only [Act.put, List.setIfInBounds_toArray, List.set_cons_zero, List.set_cons_succ]
      refine' wpAnyH_take (i := 4) (oi := ⟨some 52, _, _, _, _, _⟩) (v := ?v64) rfl (by kernel_rfl) (by kernel_rfl) (by kernel_rfl) (fun _ _ _ h => h) (Or.inl ⟨by rfl, ?hy64⟩) hHeld ?rest64
      case hy64 => (intro W hSw; go_simp; first | done | with_reducible rfl)
      simp only [Act.put, List.setIfInBounds_toArray, List.set_cons_zero, List.set_cons_succ]
      refine' wpAnyH_take (i := 6) (oi := ⟨some 54, _, _, _, _, _⟩) (v := ?v65) rfl (by kernel_rfl) (by kernel_rfl) (by kernel_rfl) (fun _ _ _ h => h) (Or.inl ⟨by rfl, ?hy65⟩) hHeld ?rest65
      case hy65 => (intro W hSw; go_simp; first | done | with_reducible rfl)
      simp only [Act.put, List.setIfInBounds_toArray, List.set_cons_zero, List.set_cons_succ]
      refine' wpAnyH_take (i := 7) (oi := ⟨some 55, _, _, _, _, _⟩) (v := ?v66) rfl (by kernel_rfl) (by kernel_rfl) (by kernel_rfl) (fun _ _ _ h => h) (Or.inl ⟨by rfl, ?hy66⟩) hHeld ?rest66
      case hy66 => (intro W hSw; go_simp; first | done | with_reducible rfl)
      simp only [Act.put, List.setIfInBounds_toArray, List.set_cons_zero, List.set_cons_succ]
      refine' wpAnyH_take (i := 8) (oi := ⟨some 56, _, _, _, _, _⟩) (v := ?v67) rfl (by kernel_rfl) (by kernel_rfl) (by kernel_rfl) (fun _ _ _ h => h) (Or.inl ⟨by rfl, ?hy67⟩) hHeld ?rest67
      case hy67 => (intro W hSw; go_simp; first | done | with_reducible rfl)
      simp only [Act.put, List.setIfInBounds_toArray, List.set_cons_zero, List.set_cons_succ]
      refine' wpAnyH_take (i := 9) (oi := ⟨some 57, _, _, _, _, _⟩) (v := ?v68) rfl (by kernel_rfl) (by kernel_rfl) (by kernel_rfl) (fun _ _ _ h => h) (Or.inl ⟨by rfl, ?hy68⟩) hHeld ?rest68
      case hy68 => (intro W hSw; go_simp; first | done | with_reducible rfl)
      simp only [Act.put, List.setIfInBounds_toArray, List.set_cons_zero, List.set_cons_succ]
      refine' wpAnyH_take (i := 10) (oi := ⟨some 58, _, _, _, _, _⟩) (v := ?v69) rfl (by kernel_rfl) (by kernel_rfl) (by kernel_rfl) (fun _ _ _ h => h) (Or.inl ⟨by rfl, ?hy69⟩) hHeld ?rest69
      case hy69 => (intro W hSw; go_simp; first | done | with_reducible rfl)
      simp only [Act.put, List.setIfInBounds_toArray, List.set_cons_zero, List.set_cons_succ]
      refine' wpAnyH_take (i := 11) (oi := ⟨some 59, _, _, _, _, _⟩) (v := ?v70) rfl (by kernel_rfl) (by kernel_rfl) (by kernel_rfl) (fun _ _ _ h => h) (Or.inl ⟨by rfl, ?hy70⟩) hHeld ?rest70
      case hy70 => (intro W hSw; go_simp; first | done | with_reducible rfl)
      simp only [Act.put, List.setIfInBounds_toArray, List.set_cons_zero, List.set_cons_succ]
      refine wpAnyH_ready (rs := [5, 12]) (by kernel_rfl) (by simp) ?_
      refine AllReadyH.cons (o := ⟨some 53, _, _, _, _, _⟩) rfl (fun K hK => ?_) (AllReadyH.cons (o := ⟨some 60, _, _, _, _, _⟩) rfl (fun K hK => ?_) AllReadyH.nil)
      · go_simp
        refine hK.out _ _ hHeld (fun hHeld => ?_)
        clear hK K
        try simp only [Act.put, List.setIfInBounds_toArray, List.set_cons_zero, List.set_cons_succ]
        refine wpAnyH_ready (rs := [12]) (by kernel_rfl) (by simp) ?_
        refine AllReadyH.cons (o := ⟨some 60, _, _, _, _, _⟩) rfl (fun K hK => ?_) AllReadyH.nil
        go_simp
        refine hK.out _ _ y3 (fun hHeld => ?_)
        clear hK K
        try simp only [Act.put, List.setIfInBounds_toArray, List.set_cons_zero, List.set_cons_succ]
        refine wpAnyH_ready (rs := [13]) (by kernel_rfl) (by simp) ?_
        refine AllReadyH.cons (o := ⟨some 61, _, _, _, _, _⟩) rfl (fun K hK => ?_) AllReadyH.nil
        refine step_append_lies _ (by rfl) _ _ _ (by rfl) w.heap.size 53 i0 _ 6 48 Try.underlying36 hi hz0 hz1 hz2 rfl (by decide) (.slice none 0 0) 0 [] (by rfl) HO3.out ⟨w1.heap.size, 0, none⟩ 1 1 (Ev.cells el) (by rfl) (by rfl) (World.news_of_block (cs := #[.int .i64 el.typ, .int .i64 el.key, .int .i64 el.a, .int .i64 el.b, .int .i64 el.c, .int .i64 el.d]) (t := 53) (fr := (0, 0)) HN3.out) (by simp [Ev.cells, Value.oneCell']) (by decide) (by simp only [maxLen]; omega) (by omega) HLO3.out _ rfl ?_
        intro g cap w7 hown hgr hat hlt7
        obtain ⟨hX7, hx7, hown8, hb8⟩ := row_step (i := 2) HX3.out HXL.out HO3.out hown hgr HB3.out HXN.out
        have y7 := HS.out _ hx7
        have y8 := HS.out _ hb8
        have c7' : w7.cell? ⟨X, 2, none⟩ = some (.slice none 0 0) := cell_of_blk hX7 2
        have f7' : w7.frozen? ⟨X, 2, none⟩ = false := free_of_blk hX7 2
        have HO8 := Lib.hid hown8
        have HX7 := Lib.hid hX7
        have HB8 := Lib.hid hb8
        have hx8 := setCell_same hX7 (i := 2) (.slice (some ⟨g, 0, none⟩) (0 + 1) cap)
        have HX8 := Lib.hid hx8
        have HGR := Lib.hid hgr
        clear hown hgr hat hlt7 hX7 hx7 hown8 hb8 hx8
        refine hK.out _ _ y7 (fun hHeld => ?_)
        clear hK K
        try simp only [Act.put, List.setIfInBounds_toArray, List.set_cons_zero, List.set_cons_succ]
        refine' wpAnyH_take (i := 14) (oi := ⟨some 62, _, _, _, _, _⟩) (v := ?v71) rfl (by kernel_rfl) (by kernel_rfl) (by kernel_rfl) (fun _ _ _ h => h) (Or.inl ⟨by rfl, ?hy71⟩) hHeld ?rest71
        case hy71 => (intro W hSw; go_simp; first | done | with_reducible rfl)
        simp only [Act.put, List.setIfInBounds_toArray, List.set_cons_zero, List.set_cons_succ]
        refine wpAnyH_ready (rs := [15]) (by kernel_rfl) (by simp) ?_
        refine AllReadyH.cons (o := ⟨none, _, _, _, _, _⟩) rfl (fun K hK => ?_) AllReadyH.nil
        go_simp
        refine hK.out _ _ y8 (fun hHeld => ?_)
        clear hK K
        try simp only [Act.put, List.setIfInBounds_toArray, List.set_cons_zero, List.set_cons_succ]
        refine wpAnyH_done (by kernel_rfl) ?_ _
        go_wp2_with fail
        go_ret
        refine ⟨X, rfl, ?_, HB8.out⟩
        have hr0 := row_other (i := 2) (y := .slice (some ⟨g, 0, none⟩) (0 + 1) cap) HR3.out HGR.out HX7.out
        refine ⟨rfl, fun _ => ⟨X, 0, rfl, block_lt HX8.out, fun i hi => ?_⟩⟩
        have hi2 : i = 0 ∨ i = 1 ∨ i = 2 := by omega
        rcases hi2 with rfl | rfl | rfl
        · exact ⟨_, _, cell_of_blk HX8.out 0, EvsAt.of_own (es := [e0]) hr0⟩
        · exact ⟨_, _, cell_of_blk HX8.out 1, ⟨rfl, fun h => absurd h (Nat.lt_irrefl 0)⟩⟩
        · exact ⟨_, _, cell_of_blk HX8.out 2, EvsAt.of_own (es := [el]) HO8.out⟩
      · go_simp
        refine hK.out _ _ y3 (fun hHeld => ?_)
        clear hK K
        try simp only [Act.put, List.setIfInBounds_toArray, List.set_cons_zero, List.set_cons_succ]
        refine wpAnyH_ready (rs := [5]) (by kernel_rfl) (by simp) ?_
        refine AllReadyH.cons (o := ⟨some 53, _, _, _, _, _⟩) rfl (fun K hK => ?_) AllReadyH.nil
        go_simp
        refine hK.out _ _ hHeld (fun hHeld => ?_)
        clear hK K
        try simp only [Act.put, List.setIfInBounds_toArray, List.set_cons_zero, List.set_cons_succ]
        refine wpAnyH_ready (rs := [13]) (by kernel_rfl) (by simp) ?_
        refine AllReadyH.cons (o := ⟨some 61, _, _, _, _, _⟩) rfl (fun K hK => ?_) AllReadyH.nil
        refine step_append_lies _ (by rfl) _ _ _ (by rfl) w.heap.size 53 i0 _ 6 48 Try.underlying36 hi hz0 hz1 hz2 rfl (by decide) (.slice none 0 0) 0 [] (by rfl) HO3.out ⟨w1.heap.size, 0, none⟩ 1 1 (Ev.cells el) (by rfl) (by rfl) (World.news_of_block (cs := #[.int .i64 el.typ, .int .i64 el.key, .int .i64 el.a, .int .i64 el.b, .int .i64 el.c, .int .i64 el.d]) (t := 53) (fr := (0, 0)) HN3.out) (by simp [Ev.cells, Value.oneCell']) (by decide) (by simp only [maxLen]; omega) (by omega) HLO3.out _ rfl ?_
        intro g cap w7 hown hgr hat hlt7
        obtain ⟨hX7, hx7, hown8, hb8⟩ := row_step (i := 2) HX3.out HXL.out HO3.out hown hgr HB3.out HXN.out
        have y7 := HS.out _ hx7
        have y8 := HS.out _ hb8
        have c7' : w7.cell? ⟨X, 2, none⟩ = some (.slice none 0 0) := cell_of_blk hX7 2
        have f7' : w7.frozen? ⟨X, 2, none⟩ = false := free_of_blk hX7 2
        have HO8 := Lib.hid hown8
        have HX7 := Lib.hid hX7
        have HB8 := Lib.hid hb8
        have hx8 := setCell_same hX7 (i := 2) (.slice (some ⟨g, 0, none⟩) (0 + 1) cap)
        have HX8 := Lib.hid hx8
        have HGR := Lib.hid hgr
        clear hown hgr hat hlt7 hX7 hx7 hown8 hb8 hx8
        refine hK.out _ _ y7 (fun hHeld => ?_)
        clear hK K
        try simp only [Act.put, List.setIfInBounds_toArray, List.set_cons_zero, List.set_cons_succ]
        refine' wpAnyH_take (i := 14) (oi := ⟨some 62, _, _, _, _, _⟩) (v := ?v72) rfl (by kernel_rfl) (by kernel_rfl) (by kernel_rfl) (fun _ _ _ h => h) (Or.inl ⟨by rfl, ?hy72⟩) hHeld ?rest72
        case hy72 => (intro W hSw; go_simp; first | done | with_reducible rfl)
        simp only [Act.put, List.setIfInBounds_toArray, List.set_cons_zero, List.set_cons_succ]
        refine wpAnyH_ready (rs := [15]) (by kernel_rfl) (by simp) ?_
        refine AllReadyH.cons (o := ⟨none, _, _, _, _, _⟩) rfl (fun K hK => ?_) AllReadyH.nil
        go_simp
        refine hK.out _ _ y8 (fun hHeld => ?_)
        clear hK K
        try simp only [Act.put, List.setIfInBounds_toArray, List.set_cons_zero, List.set_cons_succ]
        refine wpAnyH_done (by kernel_rfl) ?_ _
        go_wp2_with fail
        go_ret
        refine ⟨X, rfl, ?_, HB8.out⟩
        have hr0 := row_other (i := 2) (y := .slice (some ⟨g, 0, none⟩) (0 + 1) cap) HR3.out HGR.out HX7.out
        refine ⟨rfl, fun _ => ⟨X, 0, rfl, block_lt HX8.out, fun i hi => ?_⟩⟩
        have hi2 : i = 0 ∨ i = 1 ∨ i = 2 := by omega
        rcases hi2 with rfl | rfl | rfl
        · exact ⟨_, _, cell_of_blk HX8.out 0, EvsAt.of_own (es := [e0]) hr0⟩
        · exact ⟨_, _, cell_of_blk HX8.out 1, ⟨rfl, fun h => absurd h (Nat.lt_irrefl 0)⟩⟩
        · exact ⟨_, _, cell_of_blk HX8.out 2, EvsAt.of_own (es := [el]) HO8.out⟩
end Go.Proofs.Ytecdnpdmjbcioaa
