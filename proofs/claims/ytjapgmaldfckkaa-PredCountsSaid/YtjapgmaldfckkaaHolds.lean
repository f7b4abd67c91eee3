/- Chapter 5: num.Test, pred.Holds, and PredNever. -/
import Derived.Test.YtjapgmaldfckkaaLast
namespace Go.Proofs.Ytjapgmaldfckkaa
open Go.RowKit
set_option linter.unusedVariables false
set_option linter.unusedSimpArgs false

def testNum (op a b : Int) : Bool :=
  if op = 1 then decide (a = b) else if op = 2 then !decide (a = b) else if op = 3 then decide (a < b) else if op = 4 then decide (a ≤ b)
  else if op = 5 then decide (b < a) else if op = 6 then decide (b ≤ a) else false
set_option maxHeartbeats 1000000 in
theorem test_any (op a b : Int) (w : World) :
    Calls Try.prog 23 #[.int .i64 op, .int .i64 a, .int .i64 b] w fun e w' => e = .returned (.bool (testNum op a b)) ∧ w = w' := by
  unfold testNum
  by_cases h1 : op = 1
  · subst h1
    go_enter Try.func23, Try.ntmps23
    go_wp2
    go_ret
    exact ⟨by simp [BEq.beq], rfl⟩
  by_cases h2 : op = 2
  · subst h2
    go_enter Try.func23, Try.ntmps23
    go_wp2
    go_ret
    exact ⟨by simp [bne, BEq.beq], rfl⟩
  by_cases h3 : op = 3
  · subst h3
    go_enter Try.func23, Try.ntmps23
    go_wp2
    go_ret
    exact ⟨by simp, rfl⟩
  by_cases h4 : op = 4
  · subst h4
    go_enter Try.func23, Try.ntmps23
    go_wp2
    go_ret
    exact ⟨by simp, rfl⟩
  by_cases h5 : op = 5
  · subst h5
    go_enter Try.func23, Try.ntmps23
    go_wp2
    go_ret
    exact ⟨by simp, rfl⟩
  by_cases h6 : op = 6
  · subst h6
    go_enter Try.func23, Try.ntmps23
    go_wp2
    go_ret
    exact ⟨by simp, rfl⟩
  · have d1 : (op == 1) = false := by simpa using h1
    have d2 : (op == 2) = false := by simpa using h2
    have d3 : (op == 3) = false := by simpa using h3
    have d4 : (op == 4) = false := by simpa using h4
    have d5 : (op == 5) = false := by simpa using h5
    have d6 : (op == 6) = false := by simpa using h6
    rw [if_neg h1, if_neg h2, if_neg h3, if_neg h4, if_neg h5, if_neg h6]
    go_enter Try.func23, Try.ntmps23
    go_wp2
    go_ret
    exact ⟨rfl, rfl⟩

/-- Does a rule hold? -/
def holdsRes (op : Int) (cl cr : List CodeV) (ss : List (List Ev)) : Bool := (evalRes ss cl).2 && (evalRes ss cr).2 && testNum op (evalRes ss cl).1 (evalRes ss cr).1
set_option maxHeartbeats 1000000 in
theorem holds_any {w : World} {A B C : Option Addr} {n c n2 c2 m c' : Nat} {cl cr : List CodeV} {ss : List (List Ev)} (op : Int) (hl : CodesAt w A n cl) (hr : CodesAt w C n2 cr) (hs : SetsAt w B m ss) (hn : n ≤ 100000) (hn2 : n2 ≤ 100000) (hm : m ≤ 1000000) (hms : ∀ s ∈ ss, s.length ≤ 1000000) :
    Calls Try.prog 12 #[.agg #[.int .i64 op, .slice A n c, .slice C n2 c2], .slice B m c'] w fun e w' => e = .returned (.bool (holdsRes op cl cr ss)) ∧ Below w.heap.size w w' := by
  have HL := Lib.hid hl
  have HR := Lib.hid hr
  have HS := Lib.hid hs
  have HM := Lib.hid hms
  clear hl hr hs hms
  unfold holdsRes
  go_enter Try.func12, Try.ntmps12
  go_wp2_with fail
  have hb0 : Below w.heap.size w (w.alloc (.cells #[.int .i64 op, .slice A n c, .slice C n2 c2] 43)) := bl_alloc (Below.refl _ w) _
  have hx0 := alloc_new w (.cells #[.int .i64 op, .slice A n c, .slice C n2 c2] 43)
  have hlt := block_lt hx0
  generalize w.alloc (.cells #[.int .i64 op, .slice A n c, .slice C n2 c2] 43) = w1 at *
  refine (eval_any (HL.out.below hb0) (HS.out.below hb0) hn hm HM.out).mono ?_
  rintro e w2 ⟨rfl, hb2⟩
  have hx2 := (hb2.block _ hlt).trans hx0
  have x2 : w2.cell? ⟨w.heap.size, 2, none⟩ = some (.slice C n2 c2) := cell_of_blk hx2 2
  have hb02 := bl_then hb0 hb2
  have hlt2 := block_lt hx2
  go_wp2_with fail
  refine (eval_any (HR.out.below hb02) (HS.out.below hb02) hn2 hm HM.out).mono ?_
  rintro e w3 ⟨rfl, hb3⟩
  have hx3 := (hb3.block _ hlt2).trans hx2
  have x0 : w3.cell? ⟨w.heap.size, 0, none⟩ = some (.int .i64 op) := cell_of_blk hx3 0
  have hb03 := bl_then hb02 hb3
  clear hx0 hx2 x2 hx3 hb0 hb2 hb3
  obtain ⟨a, one, hA⟩ : ∃ a one, evalRes ss cl = (a, one) := ⟨_, _, rfl⟩
  obtain ⟨b, two, hB⟩ : ∃ a one, evalRes ss cr = (a, one) := ⟨_, _, rfl⟩
  simp only [hA, hB]
  have HA := Lib.hid hA
  have HB := Lib.hid hB
  clear hA hB
  cases one <;> cases two
  iterate 3
    · go_wp2_with fail
      go_ret
      refine ⟨?_, hb03⟩
      rw [HA.out, HB.out]
      rfl
  · go_wp2_with fail
    refine (test_any _ _ _ _).mono ?_
    rintro e w4 ⟨rfl, rfl⟩
    go_wp2_with fail
    go_ret
    refine ⟨?_, hb03⟩
    rw [HA.out, HB.out]
    rfl

/-- The contrary of a comparison. -/
def notOp (k : Int) : Int := if k = 0 then 2 else if k = 1 then 1 else if k = 2 then 6 else if k = 3 then 5 else if k = 4 then 4 else 3
theorem testNum_not (k a b : Int) (h0 : 0 ≤ k) (h5 : k < 6) : testNum (notOp k) a b = !testNum (k + 1) a b := by
  have : k = 0 ∨ k = 1 ∨ k = 2 ∨ k = 3 ∨ k = 4 ∨ k = 5 := by omega
  rcases this with rfl | rfl | rfl | rfl | rfl | rfl <;> simp [notOp, testNum] <;> (rw [Bool.eq_iff_iff]; simp)
theorem holds_never (k : Int) (cl cr : List CodeV) (ss : List (List Ev)) (h0 : 0 ≤ k) (h5 : k < 6) :
    (if (evalRes ss cl).2 = true ∧ (evalRes ss cr).2 = true then holdsRes (notOp k) cl cr ss = !holdsRes (k + 1) cl cr ss else holdsRes (notOp k) cl cr ss = false ∧ holdsRes (k + 1) cl cr ss = false) := by
  unfold holdsRes
  split
  · rename_i h
    rw [h.1, h.2, testNum_not k _ _ h0 h5]
    simp
  · rename_i h
    revert h
    cases (evalRes ss cl).2 <;> cases (evalRes ss cr).2 <;> simp

theorem own_below {W W' : World} {lo : Nat} {e : TypeId} {size : Nat} {v : Value} {n : Nat} {xs : List Value} (h : W.ownsRow lo e size v n xs) (hb : Below W.heap.size W W') : W'.ownsRow lo e size v n xs := by
  refine ⟨h.1, ?_⟩
  rcases h.2 with h0 | ⟨g, cap, cur, hv, hlo, hg, h1, h2, h3, h4⟩
  · exact .inl h0
  · exact .inr ⟨g, cap, cur, hv, hlo, (hb.block g (block_lt hg)).trans hg, h1, h2, h3, h4⟩
theorem own_three {w : World} {lo P : Nat} {e : TypeId} {size : Nat} {v x y z : Value} {n : Nat} {xs : List Value} (h : w.ownsRow lo e size v n xs) (hP : v.ownBlock ≠ some P) : (((w.setCell ⟨P, 0, none⟩ x).setCell ⟨P, 1, none⟩ y).setCell ⟨P, 2, none⟩ z).ownsRow lo e size v n xs := by
  refine ownsRow_kept (S := fun b => b = P) h ((((Only.refl (fun b => b = P) w).setCell _ _ (.inl rfl)).setCell _ _ (.inl rfl)).setCell _ _ (.inl rfl)) ?_
  rintro i rfl hk
  exact hP hk
theorem two_of {w' : World} {b : Nat} {x y : Value} {t : TypeId} (h : w'.heap[b]? = some (.cells #[x, y] t)) : w'.cell? ⟨b, 0, none⟩ = some x ∧ w'.cell? ⟨b, 1, none⟩ = some y := ⟨cell_of_blk h 0, cell_of_blk h 1⟩
set_option maxHeartbeats 4000000 in
set_option maxRecDepth 100000 in
theorem never_law (a1 : Option Addr) (n1 cap1 : Nat) (l1 : List StepV) (a2 : Option Addr) (n2 cap2 : Nat) (l2 : List StepV) (b : Option Addr) (m cap : Nat) (ns : List (List Int)) (op : Int) (w : World) (hl1 : RowAt kStep 32 w a1 n1 l1) (hl2 : RowAt kStep 32 w a2 n2 l2) (hn : RowAt (kSlice (kInt .i64) 8) 24 w b m ns) (ho : -9223372036854775808 ≤ op ∧ op ≤ 9223372036854775807) :
    Calls Try.prog 6 #[.agg #[.slice a1 n1 cap1, .slice a2 n2 cap2], .slice b m cap, .int .i64 op] w fun e w' => e = .returned (.bool true) ∧ Below w.heap.size w w' := by
  have HL1 := Lib.hid hl1
  have HL2 := Lib.hid hl2
  have HN := Lib.hid hn
  have hsm := setsOf_small ns
  clear hl1 hl2 hn
  go_enter Try.func6, Try.ntmps6
  go_wp2_with fail
  have hb0 : Below w.heap.size w (w.alloc (.cells #[.slice a1 n1 cap1, .slice a2 n2 cap2] 40)) := bl_alloc (Below.refl _ w) _
  have hx0 := alloc_new w (.cells #[.slice a1 n1 cap1, .slice a2 n2 cap2] 40)
  have hlt0 := block_lt hx0
  generalize w.alloc (.cells #[.slice a1 n1 cap1, .slice a2 n2 cap2] 40) = w0 at *
  refine (awake_any _).mono ?_
  rintro e w1 ⟨rfl, hb1⟩
  have hb01 := bl_then hb0 hb1
  have hx1 := (hb1.block _ hlt0).trans hx0
  have hlt1 := block_lt hx1
  clear hb0 hx0 hlt0 hb1
  go_wp2_with fail
  refine (sets_any (rows_below HN.out hb01)).mono ?_
  rintro e w2 ⟨A, c, vs, rfl, hs, hb2⟩
  have hb02 := bl_then hb01 hb2
  have hx2 := (hb2.block _ hlt1).trans hx1
  have hlt2 := block_lt hx2
  clear hb01 hx1 hlt1 hb2
  obtain ⟨ss, hss⟩ : ∃ ss, setsOf ns = ss := ⟨_, rfl⟩
  rw [hss] at hs hsm
  obtain ⟨N, hN⟩ : ∃ N, ss.length = N := ⟨_, rfl⟩
  simp only [hss, hN]
  rw [hN] at hs hsm
  have hN4 := hsm.1
  have hSA := hs.at_ hN.symm
  have HSM := Lib.hid hsm.2
  have HS := Lib.hid hSA
  clear hs hss hN hSA hsm
  have t1 := Int.tmod_lt_of_pos op (show (0:Int) < 6 by decide)
  have t2 := Int.lt_tmod_of_pos op (show (0:Int) < 6 by decide)
  have e1 := rest_eq op 6
  obtain ⟨k, hk⟩ : ∃ k : Nat, op % 6 = k := ⟨(op % 6).toNat, by omega⟩
  have k5 : k < 6 := by omega
  rw [hk] at e1
  clear hk
  go_wp2_with fail
  rw [e1]
  clear e1 t1 t2 ho
  have hb3 : Below w2.heap.size w2 (w2.alloc (.cells #[.int .i64 2, .int .i64 1, .int .i64 6, .int .i64 5, .int .i64 4, .int .i64 3] 41)) := bl_alloc (Below.refl _ w2) _
  have hn3 := alloc_new w2 (.cells #[.int .i64 2, .int .i64 1, .int .i64 6, .int .i64 5, .int .i64 4, .int .i64 3] 41)
  have hx3 := alloc_old hx2 (.cells #[.int .i64 2, .int .i64 1, .int .i64 6, .int .i64 5, .int .i64 4, .int .i64 3] 41)
  have hlt3 := block_lt hx3
  have hlt4 := block_lt hn3
  generalize w2.alloc (.cells #[.int .i64 2, .int .i64 1, .int .i64 6, .int .i64 5, .int .i64 4, .int .i64 3] 41) = w3 at *
  have hb03 := bl_then hb02 hb3
  have x0 : w3.cell? ⟨w.heap.size, 0, none⟩ = some (.slice a1 n1 cap1) := cell_of_blk hx3 0
  have x1 : w3.cell? ⟨w.heap.size, 1, none⟩ = some (.slice a2 n2 cap2) := cell_of_blk hx3 1
  have s1 : IntKind.i64.wrap ((k : Int) + 1) = (k : Int) + 1 := IntWalk.i64_in _ (by omega)
  go_cut [11] (fun rp wx => ∃ P A1 c1 A2 c2, rp = .pointer (some ⟨P, 0, none⟩) ∧ wx.heap[P]? = some (.cells #[.int .i64 ((k : Int) + 1), .slice A1 (codesOf l1).length c1, .slice A2 (codesOf l2).length c2] 43) ∧ Below w3.heap.size w3 wx ∧ wx.ownsRow w3.heap.size 37 5 (.slice A1 (codesOf l1).length c1) (codesOf l1).length (codeCells (codesOf l1)) ∧ wx.ownsRow w3.heap.size 37 5 (.slice A2 (codesOf l2).length c2) (codesOf l2).length (codeCells (codesOf l2)))
  case first =>
    go_region_held3 (fun w' => w'.cell? ⟨w.heap.size, 0, none⟩ = some (.slice a1 n1 cap1) ∧ w'.cell? ⟨w.heap.size, 1, none⟩ = some (.slice a2 n2 cap2)) (first | exact two_of hx6 | exact two_of (setCell_other (setCell_other (setCell_other hx6 ne6 _) ne6 _) ne6 _) | exact two_of (alloc_old hx6 _) | exact two_of hx5 | exact two_of (alloc_old hx5 _) | exact two_of (alloc_old hx3 _) | exact two_of hx3) (first
      | (have hb05' := hb05; go_at_call 11; refine (codes_any (steps_below HL2.out (by first | exact bl_then hb03 hb05 | exact bl_alloc (bl_then hb03 hb05) _))).mono ?_; rintro e w6 ⟨A2, c2, rfl, hown2, hb6⟩; have hx6 := (hb6.block w.heap.size (by first | exact block_lt hx5 | exact block_lt (alloc_old hx5 _))).trans (by first | exact hx5 | exact alloc_old hx5 _); have hb06 := bl_then (w := w3) (by first | exact hb05 | exact bl_alloc hb05 _) hb6; have l5 := block_lt hx5; (first | (have hp6 := (hb6.block w3.heap.size (block_lt hp5)).trans hp5; have ne6 : w.heap.size ≠ w3.heap.size := by omega) | (have hp6 := (hb6.block w5.heap.size (by simp)).trans (alloc_new w5 _); have ne6 : w.heap.size ≠ w5.heap.size := by omega) | skip); (first | (have q0 := cell_of_blk hp6 0; have q1 := cell_of_blk hp6 1; have q2 := cell_of_blk hp6 2; have g0 := free_of_blk hp6 0; have g1 := free_of_blk hp6 1; have g2 := free_of_blk hp6 2; simp at q0 q1 q2) | skip))
      | (go_at_call 11; refine (codes_any (steps_below HL1.out (by first | exact bl_drew hb03 | exact bl_drew (bl_alloc hb03 _) | exact hb03 | exact bl_alloc hb03 _))).mono ?_; rintro e w5 ⟨A1, c1, rfl, hown1, hb5⟩; have hx5 := (hb5.block w.heap.size (by first | exact hlt3 | (simp; omega))).trans (by first | exact hx3 | exact alloc_old hx3 _); have hb05 := bl_then (w := w3) (by first | exact bl_drew (Below.refl _ _) | exact bl_drew (bl_alloc (Below.refl _ _) _)) hb5; (first | (have hp5 := (hb5.block w3.heap.size (by first | (simp; done) | (simp; omega))).trans (alloc_new w3 _)) | skip)))
    all_goals
      go_wp2_with fail
      go_meet
      case rel =>
        have o1 : w6.ownsRow w3.heap.size 37 5 (.slice A1 (codesOf l1).length c1) (codesOf l1).length (codeCells (codesOf l1)) := by first | exact ownsRow_base (own_below hown1 hb6) (by first | exact Nat.le_refl _ | (simp; done) | (simp; omega)) | exact ownsRow_base (own_below (hown1.alloc _) hb6) (by first | exact Nat.le_refl _ | (simp; done) | (simp; omega))
        first
        | exact ⟨_, A1, c1, A2, c2, rfl, alloc_new w6 _, bl_alloc hb06 _, o1.alloc _, (ownsRow_base hown2 hb05.size).alloc _⟩
        | exact ⟨_, A1, c1, A2, c2, rfl, setCell_same (setCell_same (setCell_same hp6 _) _) _, bl_set (bl_set (bl_set hb06 _ _ hb05.size) _ _ hb05.size) _ _ hb05.size, own_three o1 (fun h => absurd (own_lt hown1 h) (Nat.lt_irrefl _)), own_three (ownsRow_base hown2 (by have := hb05.size; simp; omega)) (fun h => by have := own_block hown2 h; simp at this; omega)⟩
        | exact ⟨_, A1, c1, A2, c2, rfl, setCell_same (setCell_same (setCell_same hp6 _) _) _, bl_set (bl_set (bl_set hb06 _ _ (Nat.le_refl _)) _ _ (Nat.le_refl _)) _ _ (Nat.le_refl _), own_three o1 (fun h => by have := own_block hown1 h; simp at this; omega), own_three (ownsRow_base hown2 hb05.size) (fun h => by have := own_block hown2 h; have := block_lt hp5; omega)⟩
  case rest =>
    obtain ⟨P, A1, c1, A2, c2, rfl, hP, hb4, ho1, ho2⟩ := hcut
    have hb04 := bl_then hb03 hb4
    have hn4 := (hb4.block _ hlt4).trans hn3
    have h6 : k = 0 ∨ k = 1 ∨ k = 2 ∨ k = 3 ∨ k = 4 ∨ k = 5 := by omega
    have xk : (wc.alloc (.cells #[.int .i64 ((k : Int) + 1), .slice A1 (codesOf l1).length c1, .slice A2 (codesOf l2).length c2] 43)).cell? ⟨w2.heap.size, k, none⟩ = some (.int .i64 (notOp k)) := by
      rcases h6 with rfl | rfl | rfl | rfl | rfl | rfl <;> exact cell_of_blk (alloc_old hn4 _) _
    have p0 : wc.cell? ⟨P, 0, none⟩ = some (.int .i64 ((k : Int) + 1)) := cell_of_blk hP 0
    have p1 : wc.cell? ⟨P, 1, none⟩ = some (.slice A1 (codesOf l1).length c1) := cell_of_blk hP 1
    have p2 : wc.cell? ⟨P, 2, none⟩ = some (.slice A2 (codesOf l2).length c2) := cell_of_blk hP 2
    have hP7 := alloc_old hP (.cells #[.int .i64 (notOp k), .slice A1 (codesOf l1).length c1, .slice A2 (codesOf l2).length c2] 43)
    have hn7 := alloc_new wc (.cells #[.int .i64 (notOp k), .slice A1 (codesOf l1).length c1, .slice A2 (codesOf l2).length c2] 43)
    have r1 : (wc.alloc (.cells #[.int .i64 (notOp k), .slice A1 (codesOf l1).length c1, .slice A2 (codesOf l2).length c2] 43)).cell? ⟨P, 1, none⟩ = some (.slice A1 (codesOf l1).length c1) := cell_of_blk hP7 1
    have HX6 := Lib.hid h6
    clear h6
    go_wp2_with fail
    have hb7 : Below wc.heap.size wc (wc.alloc (.cells #[.int .i64 (notOp k), .slice A1 (codesOf l1).length c1, .slice A2 (codesOf l2).length c2] 43)) := bl_alloc (Below.refl _ wc) _
    have c1a := CodesAt.of_own (ho1.alloc (.cells #[.int .i64 (notOp k), .slice A1 (codesOf l1).length c1, .slice A2 (codesOf l2).length c2] 43))
    have c2a := CodesAt.of_own (ho2.alloc (.cells #[.int .i64 (notOp k), .slice A1 (codesOf l1).length c1, .slice A2 (codesOf l2).length c2] 43))
    generalize (wc.alloc (.cells #[.int .i64 (notOp k), .slice A1 (codesOf l1).length c1, .slice A2 (codesOf l2).length c2] 43)) = w7 at *
    have hcl1 : (codesOf l1).length ≤ 100000 := by simp [codesOf]; omega
    have hcl2 : (codesOf l2).length ≤ 100000 := by simp [codesOf]; omega
    have hb07 := bl_then hb04 hb7
    have sa : SetsAt w7 A N ss := HS.out.below (bl_then (bl_then hb3 hb4) hb7)
    have C1 := Lib.hid c1a
    have C2 := Lib.hid c2a
    have SA := Lib.hid sa
    have hms : ∀ s ∈ ss, s.length ≤ 1000000 := fun s hs => Nat.le_trans (HSM.out s hs) (by decide)
    have HMS := Lib.hid hms
    clear xk p0 p1 p2 r1 hP hb4 hn4 hb7 hb04 c1a c2a sa ho1 ho2 hb3 hn3 hx3 hlt3 hlt4 x0 x1 hb03 hms hb02 hx2 hlt2 s1 HL1 HL2
    refine (eval_any C1.out SA.out hcl1 (by omega) HMS.out).mono ?_
    rintro e w8 ⟨rfl, hb8⟩
    have hP8 := (hb8.block _ (block_lt hP7)).trans hP7
    have hn8 := (hb8.block _ (block_lt hn7)).trans hn7
    have p2 : w8.cell? ⟨P, 2, none⟩ = some (.slice A2 (codesOf l2).length c2) := cell_of_blk hP8 2
    go_wp2_with fail
    refine (eval_any (C2.out.below hb8) (SA.out.below hb8) hcl2 (by omega) HMS.out).mono ?_
    rintro e w9 ⟨rfl, hb9⟩
    have hb79 := bl_then hb8 hb9
    have hP9 := (hb9.block _ (block_lt hP8)).trans hP8
    have hn9 := (hb9.block _ (block_lt hn8)).trans hn8
    have p0 : w9.cell? ⟨P, 0, none⟩ = some (.int .i64 ((k : Int) + 1)) := cell_of_blk hP9 0
    have p1 : w9.cell? ⟨P, 1, none⟩ = some (.slice A1 (codesOf l1).length c1) := cell_of_blk hP9 1
    have p2' : w9.cell? ⟨P, 2, none⟩ = some (.slice A2 (codesOf l2).length c2) := cell_of_blk hP9 2
    clear p2 hP7 hP8 hn7 hn8 hb8 hb9
    go_wp2_with fail
    refine (holds_any ((k : Int) + 1) (C1.out.below hb79) (C2.out.below hb79) (SA.out.below hb79) hcl1 hcl2 (by omega) HMS.out).mono ?_
    rintro e w10 ⟨rfl, hb10⟩
    have hb7a := bl_then hb79 hb10
    have hn10 := (hb10.block _ (block_lt hn9)).trans hn9
    have q0 : w10.cell? ⟨wc.heap.size, 0, none⟩ = some (.int .i64 (notOp k)) := cell_of_blk hn10 0
    have q1 : w10.cell? ⟨wc.heap.size, 1, none⟩ = some (.slice A1 (codesOf l1).length c1) := cell_of_blk hn10 1
    have q2 : w10.cell? ⟨wc.heap.size, 2, none⟩ = some (.slice A2 (codesOf l2).length c2) := cell_of_blk hn10 2
    clear p0 p1 p2' hP9 hn9 hb79
    go_wp2_with fail
    refine (holds_any (notOp k) (C1.out.below hb7a) (C2.out.below hb7a) (SA.out.below hb7a) hcl1 hcl2 (by omega) HMS.out).mono ?_
    rintro e w11 ⟨rfl, hb11⟩
    have hbz := bl_then hb07 (bl_then hb7a hb11)
    have hnv := holds_never k (codesOf l1) (codesOf l2) ss (by omega) (by omega)
    clear q0 q1 q2 hn10 hb10 hb11
    generalize holdsRes (notOp k) (codesOf l1) (codesOf l2) ss = y at *
    generalize holdsRes ((k : Int) + 1) (codesOf l1) (codesOf l2) ss = x at *
    generalize evalRes ss (codesOf l1) = r1 at *
    generalize evalRes ss (codesOf l2) = r2 at *
    obtain ⟨va, oka⟩ := r1
    obtain ⟨vb, okb⟩ := r2
    simp only at hnv ⊢
    cases oka <;> cases okb <;> cases x <;> cases y
    all_goals first
      | (exfalso; simp at hnv; done)
      | (go_wp2
         go_ret
         exact ⟨rfl, hbz⟩)
end Go.Proofs.Ytjapgmaldfckkaa
