/- Chapter 8: literals; the chapter's examples. -/
import Derived.Test.YtecdnpdmjbcioaaStB
namespace Go.Proofs.Ytecdnpdmjbcioaa
open Go.RowKit
set_option linter.unusedVariables false
set_option linter.unusedSimpArgs false

theorem evs_of_blk {w : World} {b : Nat} (es : List Ev) (h : w.heap[b]? = some (.cells (evCells es).toArray 53 (0, 0))) (hl : es.length ≤ 1000) : EvsAt w (some ⟨b, 0, none⟩) es.length es :=
  EvsAt.of_own (lo := 0) (c := es.length) ⟨evCells_length es, .inr ⟨b, es.length, (evCells es).toArray, rfl, Nat.zero_le _, h, Nat.le_refl _, by simp only [maxLen]; omega, by simp [evCells_length], by rw [List.toList_toArray]; exact List.take_of_length_le (by rw [evCells_length]; exact Nat.le_refl _)⟩⟩
theorem run_of_blks {w : World} {S I ic : Nat} (hS : w.heap[S]? = some (.cells #[.slice (some ⟨I, 0, none⟩) 1 ic] 22 (0, 0))) (hI : w.heap[I]? = some (.cells #[.int .i64 0] 3 (0, 0))) : RunAt w S I 0 ic :=
  ⟨block_lt hS, block_lt hI, box_of hS, box_of hI, ⟨_, _, hS⟩, ⟨_, _, hI⟩⟩
/-- A table without guards. -/
theorem tab_none {w : World} {TA : Nat} (p : Bool) (h : w.heap[TA]? = some (.cells #[.int .i64 0, .bool p, .slice none 0 0, .slice none 0 0, .int .i64 1, .bool false, .slice none 0 0, .slice none 0 0] 49 (0, 0))) : Tab2 w TA p none 0 0 none 0 0 :=
  ⟨h, .inl rfl, fun hn => (by cases hn)⟩
/-- A table with one guard of type 2. -/
theorem tab_one {w : World} {TA G : Nat} (p : Bool) {RA : Option Addr} {RN RC : Nat} (h : w.heap[TA]? = some (.cells #[.int .i64 0, .bool p, .slice none 0 0, .slice (some ⟨G, 0, none⟩) 1 1, .int .i64 1, .bool false, .slice none 0 0, .slice none 0 0] 49 (0, 0))) (hG : w.heap[G]? = some (.cells #[.int .i64 2, .slice RA RN RC] 61 (0, 0)))
    (hm : ∀ W, Below w.heap.size w W → Calls Try.prog 56 #[.slice RA RN RC, .int .i64 0, .int .i64 2] W fun e w' => e = .returned (.bool true) ∧ Below W.heap.size W w') : Tab2 w TA p (some ⟨G, 0, none⟩) 1 1 RA RN RC :=
  ⟨h, .inr ⟨rfl, G, rfl, hG⟩, fun _ => hm⟩
theorem Ph.form {w wx : World} {v : Value} {l : List (Int × Value × Bool)} {kB kb sB tB : Bool} (h : Ph w wx v l kB kb sB tB) : ∃ A c, v = .slice A l.length c := own_form h.row
theorem Ph.at_ {w wx : World} {v : Value} {l : List (Int × Value × Bool)} {kB kb sB tB : Bool} (h : Ph w wx v l kB kb sB tB) : ∃ A c, v = .slice A l.length c ∧ (0 < l.length → ∃ g, A = some ⟨g, 0, none⟩ ∧ l.length ≤ c ∧ g < wx.heap.size ∧ ∀ i x, l[i]? = some x → wx.cell? ⟨g, i * 3, none⟩ = some (.int .i64 x.1) ∧ wx.cell? ⟨g, i * 3 + 1, none⟩ = some x.2.1 ∧ wx.cell? ⟨g, i * 3 + 2, none⟩ = some (.bool x.2.2)) := by
  obtain ⟨A, c, rfl⟩ := own_form h.row
  refine ⟨A, c, rfl, fun h0 => ?_⟩
  obtain ⟨g, rfl, _, hc, hg, hcell⟩ := own_some h.row h0
  refine ⟨g, rfl, hc, hg, fun i x hx => ⟨hcell (i * 3) _ ?_, hcell (i * 3 + 1) _ ?_, hcell (i * 3 + 2) _ ?_⟩⟩
  · exact (runCells_at l i x hx 0 (by decide)).trans rfl
  · exact (runCells_at l i x hx 1 (by decide)).trans rfl
  · exact (runCells_at l i x hx 2 (by decide)).trans rfl
/-- A step over literals. -/
theorem step_lit {w0 : World} {TA : Nat} {p : Bool} {NA : Option Addr} {NN NC : Nat} {RA : Option Addr} {RN RC : Nat} (h : Tab2 w0 TA p NA NN NC RA RN RC) (win : Int) (hw1 : 1 ≤ win) (hw2 : win ≤ 8) (bk : Bool) (es : List Ev) (N1 : Nat) (hes : es.length = N1 + 1) (hN1 : 1 ≤ N1) (hN : N1 ≤ 900) (e0 el : Ev) (h0 : es.getD 0 Ev.zero = e0) (hl : es.getD N1 Ev.zero = el) (m : Bool) (hm : NN = 1 → Meets w0 RA RN RC e0 el m)
    (bar kB kb sB tB : Bool) (hbar : (decide (NN = 1) && (decide (el.typ = 2) && m)) = bar) (hkB : (p || !bar) = kB) (hkb : bar = kb) (hsB : (p && decide (el.typ = 0)) = sB) (htB : decide (el.typ = 1) = tB) (E : Nat) (hE : w0.heap.size = E) (win2 : (N1 : Int) < win) :
    Calls Try.prog 14 #[.agg #[.slice (some ⟨TA, 0, none⟩) 2 2, .int .i64 win, .bool bk], .slice (some ⟨E, 0, none⟩) (N1 + 1) (N1 + 1), .agg #[.int .i64 0, .slice (some ⟨E + 1 + 1, 0, none⟩) 1 1, .bool false]] (((w0.alloc (.cells (evCells es).toArray 53)).alloc (.cells #[.int .i64 0] 3)).alloc (.cells #[.slice (some ⟨E + 1, 0, none⟩) 1 1] 22)) fun e w' => ∃ v l, e = .returned v ∧ Ph w0 w' v l kB kb sB tB := by
  subst hE
  have hb : Below w0.heap.size w0 (((w0.alloc (.cells (evCells es).toArray 53)).alloc (.cells #[.int .i64 0] 3)).alloc (.cells #[.slice (some ⟨w0.heap.size + 1, 0, none⟩) 1 1] 22)) := bl_alloc (bl_alloc (bl_alloc (Below.refl _ _) _) _) _
  have h1 : (((w0.alloc (.cells (evCells es).toArray 53)).alloc (.cells #[.int .i64 0] 3)).alloc (.cells #[.slice (some ⟨w0.heap.size + 1, 0, none⟩) 1 1] 22)).heap[w0.heap.size]? = some (.cells (evCells es).toArray 53 (0, 0)) := alloc_old (alloc_old (alloc_new w0 _) _) _
  have h2 : (((w0.alloc (.cells (evCells es).toArray 53)).alloc (.cells #[.int .i64 0] 3)).alloc (.cells #[.slice (some ⟨w0.heap.size + 1, 0, none⟩) 1 1] 22)).heap[w0.heap.size + 1]? = some (.cells #[.int .i64 0] 3 (0, 0)) := alloc_old (alloc_at (by simp) _) _
  have h3 : (((w0.alloc (.cells (evCells es).toArray 53)).alloc (.cells #[.int .i64 0] 3)).alloc (.cells #[.slice (some ⟨w0.heap.size + 1, 0, none⟩) 1 1] 22)).heap[w0.heap.size + 1 + 1]? = some (.cells #[.slice (some ⟨w0.heap.size + 1, 0, none⟩) 1 1] 22 (0, 0)) := alloc_at (by simp) _
  have hev := evs_of_blk es h1 (by omega)
  rw [hes] at hev
  refine (step2 (h.below hb) win hw1 hw2 bk hev hN1 (by omega) e0 el h0 hl (run_of_blks h3 h2) (Nat.le_refl _) (Nat.le_refl _) false (fun h => (by cases h)) m (fun hn W X hW hs => hm hn W X (bl_then hb hW) hs) bar kB kb sB tB hbar hkB (by rw [Bool.false_or]; exact hkb) hsB (by rw [Bool.not_false, Bool.true_and]; exact htB)).mono ?_
  rintro e w' ⟨hb', ⟨hx, _⟩ | ⟨_, v, l, rfl, hph⟩⟩
  · omega
  · exact ⟨v, l, rfl, hph.base hb⟩
theorem Ph.two {w wx : World} {v : Value} {l : List (Int × Value × Bool)} {kb : Bool} (h : Ph w wx v l true kb true false) : ∃ g c X A c2, v = .slice (some ⟨g, 0, none⟩) 2 c ∧ 2 ≤ c ∧ wx.cell? ⟨g, 4, none⟩ = some (.slice (some ⟨X, 0, none⟩) 1 1) ∧ wx.cell? ⟨X, 0, none⟩ = some (.slice A 2 c2) ∧ g < wx.heap.size ∧ X < wx.heap.size := by
  have hlen : l.length = 2 := by
    have := congrArg List.length h.ats
    rw [List.length_map] at this
    rw [this]
    rfl
  obtain ⟨A, c, rfl, hat⟩ := h.at_
  rw [hlen] at hat ⊢
  obtain ⟨g, rfl, hc, hg, hcell⟩ := hat (by decide)
  obtain ⟨X, hX, ⟨cs, fr, hb⟩, A2, c2, hx⟩ := h.more rfl
  rw [if_pos rfl] at hX
  cases hl : l[1]? with
  | none => rw [hl] at hX; cases hX
  | some x =>
    rw [hl] at hX
    have e : x.2.1 = .slice (some ⟨X, 0, none⟩) 1 1 := by injection hX
    have := (hcell 1 x hl).2.1
    rw [e] at this
    exact ⟨g, c, X, A2, c2, rfl, hc, this, hx, hg, block_lt hb⟩
theorem Ph.none_ {w wx : World} {v : Value} {l : List (Int × Value × Bool)} {kb : Bool} (h : Ph w wx v l false kb false false) : ∃ A c, v = .slice A 0 c := by
  have hlen : l.length = 0 := by
    have := congrArg List.length h.ats
    rw [List.length_map] at this
    rw [this]
    rfl
  obtain ⟨A, c, rfl, _⟩ := h.at_
  rw [hlen]
  exact ⟨A, c, rfl⟩
set_option maxHeartbeats 8000000 in
set_option maxRecDepth 20000 in
theorem awake_any (w : World) : Calls Try.prog 9 #[] w fun e w' => e = .returned (.bool true) ∧ Below w.heap.size w w' := by
  go_enter Try.func9, Try.ntmps9
  go_wp2_with fail
  refine (step_lit (w0 := (w.alloc (.cells #[.int .i64 0, .bool true, .slice none 0 0, .slice none 0 0, .int .i64 1, .bool false, .slice none 0 0, .slice none 0 0] 49)).alloc (.cells #[.slice (some ⟨w.heap.size, 0, none⟩) 2 2, .int .i64 4, .bool false] 26)) (tab_none true (alloc_old (alloc_new w _) _)) 4 (by decide) (by decide) false [Ev.zero, Ev.zero] 1 rfl (by decide) (by decide) Ev.zero Ev.zero rfl rfl false (fun hn => (by cases hn)) false true false true false rfl rfl rfl rfl rfl (w.heap.size + 1 + 1) (by simp) (by decide)).mono ?_
  rintro e w2 ⟨v, l, rfl, hph⟩
  have HB := Lib.hid (bl_then (bl_alloc (bl_alloc (Below.refl _ w) (.cells #[.int .i64 0, .bool true, .slice none 0 0, .slice none 0 0, .int .i64 1, .bool false, .slice none 0 0, .slice none 0 0] 49)) (.cells #[.slice (some ⟨w.heap.size, 0, none⟩) 2 2, .int .i64 4, .bool false] 26)) hph.bel)
  obtain ⟨g, c, X, A, c2, rfl, hc, hg4, hx0, hgl, hxl⟩ := hph.two
  clear hph
  have hcc : (2 : Int) ≤ c := by omega
  go_wp2_with fail
  refine (step_lit (w0 := ((w2.alloc (.cells #[.int .i64 2, .slice none 0 0] 61)).alloc (.cells #[.int .i64 0, .bool false, .slice none 0 0, .slice (some ⟨w2.heap.size, 0, none⟩) 1 1, .int .i64 1, .bool false, .slice none 0 0, .slice none 0 0] 49)).alloc (.cells #[.slice (some ⟨w2.heap.size + 1, 0, none⟩) 2 2, .int .i64 4, .bool false] 26)) (tab_one (TA := w2.heap.size + 1) (G := w2.heap.size) (RA := none) (RN := 0) (RC := 0) false (alloc_old (alloc_at (by simp) _) _) (alloc_old (alloc_old (alloc_new w2 _) _) _) (fun W hW => may_nil _ _ _)) 4 (by decide) (by decide) false [Ev.zero, ⟨2, 0, 0, 0, 0, 0⟩] 1 rfl (by decide) (by decide) Ev.zero ⟨2, 0, 0, 0, 0, 0⟩ rfl rfl true (fun hn W Y hW hs => (all_nil _ _).mono (by rintro e w' ⟨rfl, rfl⟩; exact ⟨rfl, Below.refl _ _⟩)) true false true false false rfl rfl rfl rfl rfl (w2.heap.size + 1 + 1 + 1) (by simp) (by decide)).mono ?_
  rintro e w3 ⟨v3, l3, rfl, hph⟩
  have hb3 := bl_then (bl_alloc (bl_alloc (bl_alloc (Below.refl _ w2) (.cells #[.int .i64 2, .slice none 0 0] 61)) (.cells #[.int .i64 0, .bool false, .slice none 0 0, .slice (some ⟨w2.heap.size, 0, none⟩) 1 1, .int .i64 1, .bool false, .slice none 0 0, .slice none 0 0] 49)) (.cells #[.slice (some ⟨w2.heap.size + 1, 0, none⟩) 2 2, .int .i64 4, .bool false] 26)) hph.bel
  obtain ⟨A3, c3, rfl⟩ := hph.none_
  have g4 := (hb3.cell (p := ⟨g, 4, none⟩) hgl).trans hg4
  have x0 := (hb3.cell (p := ⟨X, 0, none⟩) hxl).trans hx0
  have HB3 := Lib.hid (bl_then HB.out hb3)
  clear hph hg4 hx0 hgl hxl hb3
  go_wp2_with fail
  go_ret
  exact ⟨rfl, HB3.out⟩
end Go.Proofs.Ytecdnpdmjbcioaa
