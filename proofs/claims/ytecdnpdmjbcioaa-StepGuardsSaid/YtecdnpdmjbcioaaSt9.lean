/- Chapter 8: rows of runs, that grow. -/
import Derived.Test.YtecdnpdmjbcioaaSt8
namespace Go.Proofs.Ytecdnpdmjbcioaa
open Go.RowKit
set_option linter.unusedVariables false
set_option linter.unusedSimpArgs false

theorem infoRun : (Try.prog.info? 42).map (fun i => (i.zero, i.size, i.bytes)) = some (some (.agg #[.int .i64 0, .slice none 0 0, .bool false]), 3, 40) := by kernel_rfl
/-- A run as it is laid down: its cell, its sets, and whether it is blocked. -/
def runCell (x : Int × Value × Bool) : List Value := [.int .i64 x.1, x.2.1, .bool x.2.2]
def runCells (l : List (Int × Value × Bool)) : List Value := l.flatMap runCell
theorem runCells_snoc (l : List (Int × Value × Bool)) (x : Int × Value × Bool) : runCells (l ++ [x]) = runCells l ++ runCell x := by simp [runCells]
theorem runCells_at : ∀ (l : List (Int × Value × Bool)) (i : Nat) (x : Int × Value × Bool), l[i]? = some x → ∀ j, j < 3 → (runCells l)[i * 3 + j]? = (runCell x)[j]?
  | [], i, x, h, j, hj => by simp at h
  | y :: ys, 0, x, h, j, hj => by
    simp only [List.getElem?_cons_zero, Option.some.injEq] at h
    subst h
    show (runCell y ++ runCells ys)[0 * 3 + j]? = _
    rw [Nat.zero_mul, Nat.zero_add, List.getElem?_append_left (by show j < 3; exact hj)]
  | y :: ys, i + 1, x, h, j, hj => by
    show (runCell y ++ runCells ys)[(i + 1) * 3 + j]? = _
    have hl : (runCell y).length = 3 := rfl
    rw [List.getElem?_append_right (by rw [hl]; omega), hl, show (i + 1) * 3 + j - 3 = i * 3 + j by omega]
    exact runCells_at ys i x (by simpa using h) j hj
theorem RunAt.kept {T : Nat → Prop} {w w' : World} {S I io ic : Nat} (h : RunAt w S I io ic) (ho : Only T w w') (hS : ¬ T S) (hI : ¬ T I) : RunAt w' S I io ic := by
  obtain ⟨cs, fr, e1⟩ := h.st
  obtain ⟨cs', fr', e2⟩ := h.it
  have k1 := ho.block e1 hS
  have k2 := ho.block e2 hI
  refine ⟨block_lt k1, block_lt k2, ?_, ?_, ⟨_, _, k1⟩, ⟨_, _, k2⟩⟩
  · rw [show w'.cell? ⟨S, 0, none⟩ = w.cell? ⟨S, 0, none⟩ by unfold World.cell?; simp only [k1, e1]]
    exact h.c
  · rw [show w'.cell? ⟨I, io, none⟩ = w.cell? ⟨I, io, none⟩ by unfold World.cell?; simp only [k2, e2]]
    exact h.k
/-- Sets of one row that has two numbers. -/
def TwoAt (w : World) (X : Nat) : Prop := (∃ cs fr, w.heap[X]? = some (.cells cs 22 fr)) ∧ ∃ A c, w.cell? ⟨X, 0, none⟩ = some (.slice A 2 c)
theorem TwoAt.kept {T : Nat → Prop} {w w' : World} {X : Nat} (h : TwoAt w X) (ho : Only T w w') (hX : ¬ T X) : TwoAt w' X := by
  obtain ⟨⟨cs, fr, e1⟩, A, c, e2⟩ := h
  have k1 := ho.block e1 hX
  refine ⟨⟨_, _, k1⟩, A, c, ?_⟩
  rw [show w'.cell? ⟨X, 0, none⟩ = w.cell? ⟨X, 0, none⟩ by unfold World.cell?; simp only [k1, e1]]
  exact e2
/-- What came of a run so far. -/
structure Ph (w wx : World) (v : Value) (l : List (Int × Value × Bool)) (kB kb sB tB : Bool) : Prop where
  row : wx.ownsRow w.heap.size 42 3 v l.length (runCells l)
  bel : Below w.heap.size w wx
  ats : l.map (fun x => (x.1, x.2.2)) = (if kB = true then [(0, kb)] else []) ++ ((if sB = true then [(0, false)] else []) ++ (if tB = true then [(1, false)] else []))
  kept : kB = true → ∃ X g c, (l[0]?).map (·.2.1) = some (.slice (some ⟨X, 0, none⟩) 1 1) ∧ RunAt wx X g 0 c ∧ 1 ≤ c
  more : sB = true → ∃ X, (l[if kB = true then 1 else 0]?).map (·.2.1) = some (.slice (some ⟨X, 0, none⟩) 1 1) ∧ TwoAt wx X
theorem Ph.only {w wx wy : World} {v : Value} {l : List (Int × Value × Bool)} {kB kb sB tB : Bool} {T : Nat → Prop} (h : Ph w wx v l kB kb sB tB) (ho : Only T wx wy) (hT : ∀ k, T k → wx.heap.size ≤ k) : Ph w wy v l kB kb sB tB := by
  have hb : Below w.heap.size w wy := bl_only h.bel ho (fun k hk => Nat.le_trans h.bel.size (hT k hk))
  refine ⟨ownsRow_kept h.row ho (fun k hk he => ?_), hb, h.ats, fun hk => ?_, fun hs => ?_⟩
  · rcases h.row.2 with ⟨h2, _⟩ | ⟨g', c', cur, e, hbb, hg, _⟩
    · rw [h2] at he; cases he
    · rw [e] at he
      have e5 : g' = k := by simpa [Value.ownBlock] using he
      have := block_lt hg
      have := hT k hk
      omega
  · obtain ⟨X, g, c, h1, h2, h3⟩ := h.kept hk
    exact ⟨X, g, c, h1, h2.kept ho (fun hX => absurd (hT _ hX) (by have := h2.s; omega)) (fun hI => absurd (hT _ hI) (by have := h2.i; omega)), h3⟩
  · obtain ⟨X, h1, h2⟩ := h.more hs
    refine ⟨X, h1, h2.kept ho (fun hX => absurd (hT _ hX) ?_)⟩
    obtain ⟨⟨cs, fr, e⟩, _⟩ := h2
    have := block_lt e
    omega
theorem Ph.below {w wx wy : World} {v : Value} {l : List (Int × Value × Bool)} {kB kb sB tB : Bool} (h : Ph w wx v l kB kb sB tB) (hb : Below wx.heap.size wx wy) : Ph w wy v l kB kb sB tB := h.only (Only.of_below (S := fun _ => False) hb) (fun k hk => hk.elim)
theorem Ph.start (w : World) : Ph w w (.slice none 0 0) [] false false false false := ⟨⟨rfl, .inl ⟨rfl, rfl⟩⟩, Below.refl _ _, rfl, fun h => (by cases h), fun h => (by cases h)⟩
/-- The row grows; what it held stays. -/
theorem Ph.grown {w w1 w8 : World} {v v8 : Value} {l : List (Int × Value × Bool)} {kB kb sB tB : Bool} (h : Ph w w1 v l kB kb sB tB) (x : Int × Value × Bool) (hown : w8.ownsRow w.heap.size 42 3 v8 (l.length + 1) (runCells l ++ runCell x)) (hgr : w1.grownBy w8 v.ownBlock) :
    w8.ownsRow w.heap.size 42 3 v8 (l ++ [x]).length (runCells (l ++ [x])) ∧ Below w.heap.size w w8 ∧ Only (fun k => v.ownBlock = some k) w1 w8 ∧ (∀ {k : Nat} {cs : Array Value} {t : TypeId} {fr : Nat × Nat}, w1.heap[k]? = some (.cells cs t fr) → t ≠ 42 → v.ownBlock ≠ some k) := by
  have ho : Only (fun k => v.ownBlock = some k) w1 w8 := only_grown (Only.refl _ _) hgr (fun k hk => .inl hk)
  refine ⟨by rw [List.length_append, runCells_snoc]; exact hown, bl_only h.bel ho (fun k hk => own_block h.row hk), ho, fun {k cs t fr} hk ht he => ?_⟩
  rcases h.row.2 with ⟨h2, _⟩ | ⟨g', c', cur, e, hbb, hg, _⟩
  · rw [h2] at he; cases he
  · rw [e] at he
    have e5 : g' = k := by simpa [Value.ownBlock] using he
    subst e5
    rw [hg] at hk
    injection hk with hk
    injection hk with _ hk _
    exact ht hk.symm
theorem Ph.olds {w w1 w8 : World} {v : Value} {l : List (Int × Value × Bool)} {kB kb sB tB : Bool} (h : Ph w w1 v l kB kb sB tB) (ho : Only (fun k => v.ownBlock = some k) w1 w8) (hne : ∀ {k : Nat} {cs : Array Value} {t : TypeId} {fr : Nat × Nat}, w1.heap[k]? = some (.cells cs t fr) → t ≠ 42 → v.ownBlock ≠ some k) :
    (kB = true → ∃ X g c, (l[0]?).map (·.2.1) = some (.slice (some ⟨X, 0, none⟩) 1 1) ∧ RunAt w8 X g 0 c ∧ 1 ≤ c) ∧ (sB = true → ∃ X, (l[if kB = true then 1 else 0]?).map (·.2.1) = some (.slice (some ⟨X, 0, none⟩) 1 1) ∧ TwoAt w8 X) := by
  refine ⟨fun hk => ?_, fun hs => ?_⟩
  · obtain ⟨X, g, c, h1, h2, h3⟩ := h.kept hk
    refine ⟨X, g, c, h1, h2.kept ho ?_ ?_, h3⟩
    · obtain ⟨cs, fr, e⟩ := h2.st; exact hne e (by decide)
    · obtain ⟨cs, fr, e⟩ := h2.it; exact hne e (by decide)
  · obtain ⟨X, h1, h2⟩ := h.more hs
    refine ⟨X, h1, h2.kept ho ?_⟩
    obtain ⟨⟨cs, fr, e⟩, _⟩ := h2
    exact hne e (by decide)
theorem map_old {l : List (Int × Value × Bool)} {i : Nat} {x : Int × Value × Bool} {u : Value} (h : (l[i]?).map (·.2.1) = some u) : ((l ++ [x])[i]?).map (·.2.1) = some u := by
  cases hl : l[i]? with
  | none => rw [hl] at h; cases h
  | some y =>
    rw [List.getElem?_append_left (List.getElem?_eq_some_iff.1 hl).1]
    exact h
/-- The first: the run that is kept. -/
theorem Ph.keep {w w1 w8 : World} {v8 : Value} (h : Ph w w1 (.slice none 0 0) [] false false false false) {X g c : Nat} (kb : Bool) (hr : RunAt w1 X g 0 c) (hc : 1 ≤ c) (hown : w8.ownsRow w.heap.size 42 3 v8 1 (runCell (0, .slice (some ⟨X, 0, none⟩) 1 1, kb))) (hgr : w1.grownBy w8 (Value.slice none 0 0).ownBlock) :
    Ph w w8 v8 [(0, .slice (some ⟨X, 0, none⟩) 1 1, kb)] true kb false false := by
  obtain ⟨g1, g2, g3, g4⟩ := h.grown (0, .slice (some ⟨X, 0, none⟩) 1 1, kb) hown hgr
  refine ⟨g1, g2, rfl, fun _ => ⟨X, g, c, rfl, hr.kept g3 ?_ ?_, hc⟩, fun h => by cases h⟩
  · obtain ⟨cs, fr, e⟩ := hr.st; exact g4 e (by decide)
  · obtain ⟨cs, fr, e⟩ := hr.it; exact g4 e (by decide)
/-- The second: one that took the event at its cell. -/
theorem Ph.add {w w1 w8 : World} {v v8 : Value} {l : List (Int × Value × Bool)} {kB kb : Bool} (h : Ph w w1 v l kB kb false false) {X : Nat} (hX : TwoAt w1 X) (hown : w8.ownsRow w.heap.size 42 3 v8 (l.length + 1) (runCells l ++ runCell (0, .slice (some ⟨X, 0, none⟩) 1 1, false))) (hgr : w1.grownBy w8 v.ownBlock) :
    Ph w w8 v8 (l ++ [(0, .slice (some ⟨X, 0, none⟩) 1 1, false)]) kB kb true false := by
  obtain ⟨g1, g2, g3, g4⟩ := h.grown _ hown hgr
  obtain ⟨k1, k2⟩ := h.olds g3 g4
  have hat := h.ats
  simp only [Bool.false_eq_true, if_false, List.append_nil] at hat
  have hll : l.length = if kB = true then 1 else 0 := by
    have := congrArg List.length hat
    rw [List.length_map] at this
    rw [this]
    split <;> rfl
  refine ⟨g1, g2, by rw [List.map_append, hat]; rfl, fun hk => ?_, fun _ => ⟨X, ?_, hX.kept g3 ?_⟩⟩
  · obtain ⟨X', g', c', e1, e2, e3⟩ := k1 hk
    exact ⟨X', g', c', map_old e1, e2, e3⟩
  · rw [← hll, List.getElem?_append_right (Nat.le_refl _), Nat.sub_self]
    rfl
  · obtain ⟨⟨cs, fr, e⟩, _⟩ := hX; exact g4 e (by decide)
/-- The third: one that went on to the next cell. -/
theorem Ph.goes {w w1 w8 : World} {v v8 : Value} {l : List (Int × Value × Bool)} {kB kb sB : Bool} (h : Ph w w1 v l kB kb sB false) (sv : Value) (hown : w8.ownsRow w.heap.size 42 3 v8 (l.length + 1) (runCells l ++ runCell (1, sv, false))) (hgr : w1.grownBy w8 v.ownBlock) :
    Ph w w8 v8 (l ++ [(1, sv, false)]) kB kb sB true := by
  obtain ⟨g1, g2, g3, g4⟩ := h.grown _ hown hgr
  obtain ⟨k1, k2⟩ := h.olds g3 g4
  have hat := h.ats
  simp only [Bool.false_eq_true, if_false, List.append_nil] at hat
  refine ⟨g1, g2, by rw [List.map_append, hat, List.append_assoc]; rfl, fun hk => ?_, fun hs => ?_⟩
  · obtain ⟨X', g', c', e1, e2, e3⟩ := k1 hk
    exact ⟨X', g', c', map_old e1, e2, e3⟩
  · obtain ⟨X', e1, e2⟩ := k2 hs
    exact ⟨X', map_old e1, e2⟩
theorem reads3 (w : World) (a b c : Value) (ha : a.oneCell' = true) (hb : b.oneCell' = true) (hc : c.oneCell' = true) : Reads (w.alloc (.cells #[a, b, c] 42)) 3 (.slice (some ⟨w.heap.size, 0, none⟩) 1 1) 1 [a, b, c] := by
  refine ⟨rfl, by simp [ha, hb, hc], .inl ⟨⟨w.heap.size, 0, none⟩, 1, rfl, fun j u hj => ?_⟩⟩
  have h := cell_of_blk (cs := [a, b, c]) (alloc_new w (.cells #[a, b, c] 42)) j
  rw [hj] at h
  simpa [Addr.add_lit] using h
end Go.Proofs.Ytecdnpdmjbcioaa
