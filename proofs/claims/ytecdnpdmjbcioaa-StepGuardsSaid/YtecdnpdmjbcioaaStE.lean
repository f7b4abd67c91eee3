/- Chapter 8: StepGuards, what is laid down, and what the steps make of it. -/
import Derived.Test.YtecdnpdmjbcioaaStC
import Derived.Test.YtecdnpdmjbcioaaRuH
namespace Go.Proofs.Ytecdnpdmjbcioaa
open Go.RowKit
set_option linter.unusedVariables false
set_option linter.unusedSimpArgs false

/-- The guard's rule: a field of the newest event against a number. -/
def gRule (L1 L2 : Nat) (least : Int) : RuleV := ⟨6, some ⟨L1, 0, none⟩, 1, 1, [⟨7, 0, ⟨#[]⟩, 0, 2⟩], some ⟨L2, 0, none⟩, 1, 1, [⟨6, least, ⟨#[]⟩, 0, 0⟩]⟩
theorem codes_of_blk {w : World} {b : Nat} (c : CodeV) (h : w.heap[b]? = some (.cells c.cells.toArray 56 (0, 0))) : CodesAt w (some ⟨b, 0, none⟩) 1 [c] := by
  refine ⟨rfl, fun _ => ⟨b, 0, rfl, block_lt h, fun i hi j hj => ?_⟩⟩
  obtain rfl : i = 0 := by omega
  have := cell_of_blk (cs := c.cells) h j
  simpa using this
theorem rules_of_blk {w : World} {b : Nat} (r : RuleV) (h : w.heap[b]? = some (.cells r.cells.toArray 59 (0, 0))) (hr : RuleOk w r) : RulesAt w (some ⟨b, 0, none⟩) 1 [r] := by
  refine ⟨rfl, fun _ => ⟨b, 0, rfl, block_lt h, fun i hi j hj => ?_⟩, fun q hq => ?_, by decide⟩
  · obtain rfl : i = 0 := by omega
    have := cell_of_blk (cs := r.cells) h j
    simpa using this
  · rw [List.mem_singleton] at hq
    rw [hq]; exact hr
theorem gRule_may (L1 L2 : Nat) (least : Int) : mayB 0 2 [gRule L1 L2 least] = true := rfl
theorem gRule_res (L1 L2 : Nat) (x least : Int) (e0 : List Ev) (e1 : Ev) : allRes [gRule L1 L2 least] [e0, [], [e1]] = decide (least ≤ e1.a) := by
  have h1 : evalRes [e0, [], [e1]] [⟨7, 0, ⟨#[]⟩, 0, 2⟩] = (e1.a, true) := rfl
  have h2 : evalRes [e0, [], [e1]] [⟨6, least, ⟨#[]⟩, 0, 0⟩] = (least, true) := rfl
  simp only [allRes, List.all_cons, List.all_nil, ruleRes, gRule, holdsRes, h1, h2, testNum, Bool.and_true, Bool.true_and]
  rfl
/-- What StepGuards lays down. -/
structure Laid (plus : Bool) (x least : Int) (R RR TA TB H L1 L2 G : Nat) (w : World) : Prop where
  rule : w.heap[R]? = some (.cells #[.int .i64 6, .slice (some ⟨L1, 0, none⟩) 1 1, .slice (some ⟨L2, 0, none⟩) 1 1] 59 (0, 0))
  rules : RulesAt w (some ⟨RR, 0, none⟩) 1 [gRule L1 L2 least]
  ok : RuleOk w (gRule L1 L2 least)
  tab : Tab2 w TA plus (some ⟨G, 0, none⟩) 1 1 (some ⟨RR, 0, none⟩) 1 1
  box : w.heap[TB]? = some (.cells #[.slice (some ⟨TA, 0, none⟩) 2 2, .int .i64 8, .bool false] 26 (0, 0))
  hist : w.heap[H]? = some (.cells (evCells [Ev.zero, ⟨2, 0, x, 0, 0, 0⟩, ⟨1, 0, 0, 0, 0, 0⟩]).toArray 53 (0, 0))
theorem Laid.below {plus : Bool} {x least : Int} {R RR TA TB H L1 L2 G : Nat} {w w' : World} (h : Laid plus x least R RR TA TB H L1 L2 G w) (hb : Below w.heap.size w w') : Laid plus x least R RR TA TB H L1 L2 G w' :=
  ⟨(hb.block _ (block_lt h.rule)).trans h.rule, h.rules.below hb, h.ok.below hb, h.tab.below hb, (hb.block _ (block_lt h.box)).trans h.box, (hb.block _ (block_lt h.hist)).trans h.hist⟩
theorem Laid.make {plus : Bool} {x least : Int} {R RR TA TB H L1 L2 G : Nat} {w : World} (h1 : w.heap[L1]? = some (.cells #[.int .i64 7, .int .i64 0, .string ⟨#[]⟩, .int .i64 0, .int .i64 2] 56 (0, 0))) (h2 : w.heap[L2]? = some (.cells #[.int .i64 6, .int .i64 least, .string ⟨#[]⟩, .int .i64 0, .int .i64 0] 56 (0, 0)))
    (h3 : w.heap[R]? = some (.cells #[.int .i64 6, .slice (some ⟨L1, 0, none⟩) 1 1, .slice (some ⟨L2, 0, none⟩) 1 1] 59 (0, 0))) (h4 : w.heap[RR]? = some (.cells #[.int .i64 6, .slice (some ⟨L1, 0, none⟩) 1 1, .slice (some ⟨L2, 0, none⟩) 1 1] 59 (0, 0)))
    (h5 : w.heap[G]? = some (.cells #[.int .i64 2, .slice (some ⟨RR, 0, none⟩) 1 1] 61 (0, 0)))
    (h6 : w.heap[TA]? = some (.cells #[.int .i64 0, .bool plus, .slice none 0 0, .slice (some ⟨G, 0, none⟩) 1 1, .int .i64 1, .bool false, .slice none 0 0, .slice none 0 0] 49 (0, 0)))
    (h7 : w.heap[TB]? = some (.cells #[.slice (some ⟨TA, 0, none⟩) 2 2, .int .i64 8, .bool false] 26 (0, 0)))
    (h8 : w.heap[H]? = some (.cells #[.int .i64 0, .int .i64 0, .int .i64 0, .int .i64 0, .int .i64 0, .int .i64 0, .int .i64 2, .int .i64 0, .int .i64 x, .int .i64 0, .int .i64 0, .int .i64 0, .int .i64 1, .int .i64 0, .int .i64 0, .int .i64 0, .int .i64 0, .int .i64 0] 53 (0, 0))) : Laid plus x least R RR TA TB H L1 L2 G w := by
  have hok : RuleOk w (gRule L1 L2 least) := ⟨codes_of_blk _ h1, codes_of_blk _ h2, (show 1 ≤ 1000 by decide), (show 1 ≤ 1000 by decide), Nat.le_refl _, Nat.le_refl _, fun h => (by cases h), fun h => (by cases h)⟩
  have hrs : RulesAt w (some ⟨RR, 0, none⟩) 1 [gRule L1 L2 least] := rules_of_blk _ h4 hok
  refine ⟨h3, hrs, hok, tab_one plus h6 h5 fun W hW => ?_, h7, h8⟩
  refine (may_any (c := 1) (hrs.below hW) 0 2).mono ?_
  rintro e w' ⟨rfl, hb⟩
  exact ⟨by rw [gRule_may], hb⟩
theorem Laid.meets {plus : Bool} {x least : Int} {R RR TA TB H L1 L2 G : Nat} {w : World} (h : Laid plus x least R RR TA TB H L1 L2 G w) (e0 el : Ev) : Meets w (some ⟨RR, 0, none⟩) 1 1 e0 el (decide (least ≤ el.a)) := by
  intro W X hW hs
  refine (all_any (c := 1) (c' := 3) (h.rules.below hW) hs (by decide) ?_).mono ?_
  · intro s hs
    simp only [List.mem_cons, List.not_mem_nil, or_false] at hs
    rcases hs with rfl | rfl | rfl <;> simp
  · rintro e w' ⟨rfl, hb⟩
    exact ⟨by rw [gRule_res _ _ x], hb⟩
/-- The first step. -/
theorem Laid.call1 {plus : Bool} {x least : Int} {R RR TA TB H L1 L2 G : Nat} {w : World} (h : Laid plus x least R RR TA TB H L1 L2 G w) (m : Bool) (hm : decide (least ≤ x) = m) {W : World} (hW : Below w.heap.size w W) {S I ic : Nat} (hr : RunAt W S I 0 ic) (hic : 1 ≤ ic) :
    Calls Try.prog 14 #[.agg #[.slice (some ⟨TA, 0, none⟩) 2 2, .int .i64 8, .bool false], .slice (some ⟨H, 0, none⟩) 2 3, .agg #[.int .i64 0, .slice (some ⟨S, 0, none⟩) 1 1, .bool false]] W fun e w' => ∃ v l, e = .returned v ∧ Below w.heap.size w w' ∧ Ph W w' v l (plus || !m) m false false := by
  have h' := h.below hW
  have hev : EvsAt W (some ⟨H, 0, none⟩) (1 + 1) [Ev.zero, ⟨2, 0, x, 0, 0, 0⟩] := by
    have := (evs_of_blk _ h'.hist (show 3 ≤ 1000 by decide)).cells (show 0 < 3 by decide)
    refine ⟨rfl, fun _ => ?_⟩
    obtain ⟨b, off, e, hl, hc⟩ := this
    refine ⟨b, off, e, hl, fun i hi j hj => ?_⟩
    rw [hc i (by simp; omega) j hj]
    rcases (show i = 0 ∨ i = 1 by omega) with rfl | rfl <;> rfl
  refine (step2 h'.tab 8 (by decide) (by decide) false (hc := 3) hev (by decide) (by decide) _ _ rfl rfl hr (by decide : 1 ≤ 1) hic false (fun h => (by cases h)) m (fun _ => by have := h'.meets Ev.zero ⟨2, 0, x, 0, 0, 0⟩; rw [← hm]; exact this) m (plus || !m) m false false (by rw [← hm]; rfl) rfl (Bool.false_or _) (by simp) rfl).mono ?_
  rintro e w' ⟨hb, ⟨hx, _⟩ | ⟨_, v, l, rfl, hph⟩⟩
  · omega
  · exact ⟨v, l, rfl, bl_then hW hb, hph⟩
/-- The second. -/
theorem Laid.call2 {plus : Bool} {x least : Int} {R RR TA TB H L1 L2 G : Nat} {w : World} (h : Laid plus x least R RR TA TB H L1 L2 G w) (m : Bool) (hm : m = true → plus = true) {W : World} (hW : Below w.heap.size w W) {S I ic : Nat} (hr : RunAt W S I 0 ic) (hic : 1 ≤ ic) :
    Calls Try.prog 14 #[.agg #[.slice (some ⟨TA, 0, none⟩) 2 2, .int .i64 8, .bool false], .slice (some ⟨H, 0, none⟩) 3 3, .agg #[.int .i64 0, .slice (some ⟨S, 0, none⟩) 1 1, .bool m]] W fun e w' => ∃ v l, e = .returned v ∧ Below W.heap.size W w' ∧ Ph W w' v l true m false (!m) := by
  have h' := h.below hW
  have hev : EvsAt W (some ⟨H, 0, none⟩) (2 + 1) [Ev.zero, ⟨2, 0, x, 0, 0, 0⟩, ⟨1, 0, 0, 0, 0, 0⟩] := evs_of_blk _ h'.hist (show 3 ≤ 1000 by decide)
  refine (step2 h'.tab 8 (by decide) (by decide) false (hc := 3) hev (by decide) (by decide) _ _ rfl rfl hr (by decide : 1 ≤ 1) hic m hm _ (fun _ => h'.meets _ _) false true m false (!m) rfl (by simp) (Bool.or_false _) (by simp) (by simp)).mono ?_
  rintro e w' ⟨hb, ⟨hx, _⟩ | ⟨_, v, l, rfl, hph⟩⟩
  · omega
  · exact ⟨v, l, rfl, hb, hph⟩
/-- The third. -/
theorem Laid.call3 {x least : Int} {R RR TA TB H L1 L2 G : Nat} {w : World} (h : Laid true x least R RR TA TB H L1 L2 G w) {W : World} (hW : Below w.heap.size w W) {S I ic E : Nat} (hr : RunAt W S I 0 ic) (hic : 1 ≤ ic)
    (hE : W.heap[E]? = some (.cells #[.int .i64 0, .int .i64 0, .int .i64 0, .int .i64 0, .int .i64 0, .int .i64 0, .int .i64 2, .int .i64 0, .int .i64 x, .int .i64 0, .int .i64 0, .int .i64 0, .int .i64 0, .int .i64 0, .int .i64 0, .int .i64 0, .int .i64 0, .int .i64 0] 53 (0, 0))) :
    Calls Try.prog 14 #[.agg #[.slice (some ⟨TA, 0, none⟩) 2 2, .int .i64 8, .bool false], .slice (some ⟨E, 0, none⟩) 3 3, .agg #[.int .i64 0, .slice (some ⟨S, 0, none⟩) 1 1, .bool true]] W fun e w' => ∃ v l, e = .returned v ∧ Below W.heap.size W w' ∧ Ph W w' v l true true true false := by
  have h' := h.below hW
  have hev : EvsAt W (some ⟨E, 0, none⟩) (2 + 1) [Ev.zero, ⟨2, 0, x, 0, 0, 0⟩, ⟨0, 0, 0, 0, 0, 0⟩] := evs_of_blk [Ev.zero, ⟨2, 0, x, 0, 0, 0⟩, ⟨0, 0, 0, 0, 0, 0⟩] hE (show 3 ≤ 1000 by decide)
  refine (step2 h'.tab 8 (by decide) (by decide) false (hc := 3) hev (by decide) (by decide) _ _ rfl rfl hr (by decide : 1 ≤ 1) hic true (fun _ => rfl) _ (fun _ => h'.meets _ _) false true true true false rfl rfl rfl rfl rfl).mono ?_
  rintro e w' ⟨hb, ⟨hx, _⟩ | ⟨_, v, l, rfl, hph⟩⟩
  · omega
  · exact ⟨v, l, rfl, hb, hph⟩
/-- The document's rules. -/
theorem Laid.all {plus : Bool} {x least : Int} {R RR TA TB H L1 L2 G : Nat} {w : World} (h : Laid plus x least R RR TA TB H L1 L2 G w) {W : World} (hW : Below w.heap.size w W) {B X : Nat} (hB : W.heap[B]? = some (.cells #[.int .i64 6, .slice (some ⟨L1, 0, none⟩) 1 1, .slice (some ⟨L2, 0, none⟩) 1 1] 59 (0, 0))) (hX : W.heap[X]? = some (.cells #[.slice none 0 0, .slice none 0 0, .slice (some ⟨H, 6, none⟩) 1 2] 36 (0, 0))) :
    Calls Try.prog 17 #[.slice (some ⟨B, 0, none⟩) 1 1, .slice (some ⟨X, 0, none⟩) 3 3] W fun e w' => e = .returned (.bool (decide (least ≤ x))) ∧ Below W.heap.size W w' := by
  have h' := h.below hW
  have hH := h'.hist
  have hs : SetsAt W (some ⟨X, 0, none⟩) 3 [[], [], [⟨2, 0, x, 0, 0, 0⟩]] := by
    refine ⟨rfl, fun _ => ⟨X, 0, rfl, block_lt hX, fun i hi => ?_⟩⟩
    have := cell_of_blk (cs := [.slice none 0 0, .slice none 0 0, .slice (some ⟨H, 6, none⟩) 1 2]) hX i
    rw [Nat.zero_add, this]
    rcases (show i = 0 ∨ i = 1 ∨ i = 2 by omega) with rfl | rfl | rfl
    · exact ⟨none, 0, rfl, ⟨rfl, fun h => (by cases h)⟩⟩
    · exact ⟨none, 0, rfl, ⟨rfl, fun h => (by cases h)⟩⟩
    · refine ⟨some ⟨H, 6, none⟩, 2, rfl, rfl, fun _ => ⟨H, 6, rfl, block_lt hH, fun i hi j hj => ?_⟩⟩
      obtain rfl : i = 0 := by simpa using hi
      have := cell_of_blk hH (6 + j)
      rw [Nat.zero_mul, Nat.add_zero, this]
      rcases (show j = 0 ∨ j = 1 ∨ j = 2 ∨ j = 3 ∨ j = 4 ∨ j = 5 by omega) with rfl | rfl | rfl | rfl | rfl | rfl <;> rfl
  refine (rall_any (c := 1) (c' := 3) (rules_of_blk (gRule L1 L2 least) hB h'.ok) hs (by decide) ?_).mono ?_
  · intro s hs
    simp only [List.mem_cons, List.not_mem_nil, or_false] at hs
    rcases hs with rfl | rfl | rfl <;> simp
  · rintro e w' ⟨rfl, hb⟩
    exact ⟨by rw [gRule_res _ _ x], hb⟩
/-- The run that was kept. -/
theorem Ph.run0 {w wx : World} {v : Value} {l : List (Int × Value × Bool)} {kb sB tB : Bool} (h : Ph w wx v l true kb sB tB) (n : Nat) (hn : (1 + ((if sB = true then 1 else 0) + (if tB = true then 1 else 0))) = n) : ∃ g c X i ci, v = .slice (some ⟨g, 0, none⟩) n c ∧ g < wx.heap.size ∧ n ≤ c ∧ wx.cell? ⟨g, 0, none⟩ = some (.int .i64 0) ∧ wx.cell? ⟨g, 1, none⟩ = some (.slice (some ⟨X, 0, none⟩) 1 1) ∧ wx.cell? ⟨g, 2, none⟩ = some (.bool kb) ∧ RunAt wx X i 0 ci ∧ 1 ≤ ci := by
  have hlen : l.length = n := by
    have := congrArg List.length h.ats
    rw [List.length_map] at this
    rw [this, ← hn]
    cases sB <;> cases tB <;> simp
  obtain ⟨X, gi, ci, hX, hrun, hci⟩ := h.kept rfl
  obtain ⟨A, c, rfl, hat⟩ := h.at_
  rw [hlen] at hat ⊢
  obtain ⟨g, rfl, hc, hg, hcell⟩ := hat (by omega)
  cases hl : l with
  | nil => rw [hl] at hlen; simp at hlen; omega
  | cons y ys =>
    have := hcell 0 y (by rw [hl]; rfl)
    have ha := h.ats
    rw [hl] at ha hX
    have e3 : y.2.1 = .slice (some ⟨X, 0, none⟩) 1 1 := by simpa using hX
    simp only [List.map_cons, if_true, List.singleton_append, List.cons.injEq, Prod.mk.injEq] at ha
    obtain ⟨⟨e1, e2⟩, _⟩ := ha
    rw [e1, e2, e3] at this
    exact ⟨g, c, X, gi, ci, rfl, hg, hc, by simpa using this.1, by simpa using this.2.1, by simpa using this.2.2, hrun, hci⟩
/-- Two runs: the second one's cell, and whether it is blocked. -/
theorem Ph.run1 {w wx : World} {v : Value} {l : List (Int × Value × Bool)} {kb sB tB : Bool} (h : Ph w wx v l true kb sB tB) (a : Int) (b : Bool) (hab : (if sB = true then [((0 : Int), false)] else []) ++ (if tB = true then [((1 : Int), false)] else []) = [(a, b)]) : ∃ g c, v = .slice (some ⟨g, 0, none⟩) 2 c ∧ 2 ≤ c ∧ wx.cell? ⟨g, 2, none⟩ = some (.bool kb) ∧ wx.cell? ⟨g, 3, none⟩ = some (.int .i64 a) ∧ wx.cell? ⟨g, 5, none⟩ = some (.bool b) := by
  have ha := h.ats
  rw [if_pos rfl, hab] at ha
  have hlen : l.length = 2 := by
    have := congrArg List.length ha
    simpa using this
  obtain ⟨A, c, rfl, hat⟩ := h.at_
  rw [hlen] at hat ⊢
  obtain ⟨g, rfl, hc, hg, hcell⟩ := hat (by omega)
  match l, hlen with
  | [y, z], _ =>
    have h0 := hcell 0 y rfl
    have h1 := hcell 1 z rfl
    simp only [List.map_cons, List.map_nil, List.singleton_append, List.cons.injEq, Prod.mk.injEq, and_true] at ha
    obtain ⟨⟨e1, e2⟩, e3, e4⟩ := ha
    rw [e1, e2] at h0
    rw [e3, e4] at h1
    exact ⟨g, c, rfl, hc, by simpa using h0.2.2, by simpa using h1.1, by simpa using h1.2.2⟩
end Go.Proofs.Ytecdnpdmjbcioaa
