/- Rules in memory; num.Test, pred.Holds, pred.All. -/
import Derived.Test.YtecdnpdmjbcioaaEvalW
namespace Go.Proofs.Ytecdnpdmjbcioaa
open Go.RowKit
set_option linter.unusedVariables false
set_option linter.unusedSimpArgs false

def codeCells (cs : List CodeV) : List Value := cs.flatMap CodeV.cells
theorem codeCells_length (cs : List CodeV) : (codeCells cs).length = cs.length * 5 := by
  induction cs with
  | nil => rfl
  | cons c cs ih => simp only [codeCells, List.flatMap_cons, List.length_append, CodeV.cells, List.length_cons, List.length_nil] at *; omega
theorem codeCells_at (cs : List CodeV) : ∀ i, i < cs.length → ∀ j, j < 5 → (codeCells cs)[i * 5 + j]? = (cs.getD i CodeV.zero).cells[j]? := by
  induction cs with
  | nil => intro i hi; simp at hi
  | cons c cs ih =>
    intro i hi j hj
    have hl : c.cells.length = 5 := rfl
    cases i with
    | zero =>
      simp only [codeCells, List.flatMap_cons, Nat.zero_mul, Nat.zero_add, List.getD_cons_zero]
      rw [List.getElem?_append_left (by omega)]
    | succ i =>
      have := ih i (by simpa using hi) j hj
      simp only [codeCells, List.flatMap_cons, List.getD_cons_succ] at this ⊢
      rw [List.getElem?_append_right (by omega), hl, show (i + 1) * 5 + j - 5 = i * 5 + j by omega]
      exact this
theorem CodesAt.of_own {w : World} {lo : Nat} {A : Option Addr} {n c : Nat} {cs : List CodeV} (h : w.ownsRow lo 56 5 (.slice A n c) n (codeCells cs)) : CodesAt w A n cs := by
  have hl : cs.length = n := by have := h.1; rw [codeCells_length] at this; omega
  refine ⟨hl, fun hp => ?_⟩
  obtain ⟨g, rfl, _, _, hg, hc⟩ := own_some h hp
  refine ⟨g, 0, rfl, hg, fun i hi j hj => ?_⟩
  have h1 := codeCells_at cs i (by omega) j hj
  have h2 : j < (cs.getD i CodeV.zero).cells.length := hj
  rw [List.getElem?_eq_getElem h2] at h1
  rw [List.getElem?_eq_getElem h2, Nat.zero_add]
  exact hc _ _ h1
theorem infoCode : (Try.prog.info? 56).map (fun i => (i.zero, i.size, i.bytes)) = some (some (.agg #[.int .i64 0, .int .i64 0, .string ByteArray.empty, .int .i64 0, .int .i64 0]), 5, 48) := by kernel_rfl
def testNum (op a b : Int) : Bool :=
  if op = 1 then decide (a = b) else if op = 2 then !decide (a = b) else if op = 3 then decide (a < b) else if op = 4 then decide (a ≤ b)
  else if op = 5 then decide (b < a) else if op = 6 then decide (b ≤ a) else false
set_option maxHeartbeats 1000000 in
theorem test_any (op a b : Int) (w : World) :
    Calls Try.prog 80 #[.int .i64 op, .int .i64 a, .int .i64 b] w fun e w' => e = .returned (.bool (testNum op a b)) ∧ w = w' := by
  unfold testNum
  by_cases h1 : op = 1
  · subst h1
    go_enter Try.func80, Try.ntmps80
    go_wp2
    go_ret
    exact ⟨by simp [BEq.beq], rfl⟩
  by_cases h2 : op = 2
  · subst h2
    go_enter Try.func80, Try.ntmps80
    go_wp2
    go_ret
    exact ⟨by simp [bne, BEq.beq], rfl⟩
  by_cases h3 : op = 3
  · subst h3
    go_enter Try.func80, Try.ntmps80
    go_wp2
    go_ret
    exact ⟨by simp, rfl⟩
  by_cases h4 : op = 4
  · subst h4
    go_enter Try.func80, Try.ntmps80
    go_wp2
    go_ret
    exact ⟨by simp, rfl⟩
  by_cases h5 : op = 5
  · subst h5
    go_enter Try.func80, Try.ntmps80
    go_wp2
    go_ret
    exact ⟨by simp, rfl⟩
  by_cases h6 : op = 6
  · subst h6
    go_enter Try.func80, Try.ntmps80
    go_wp2
    go_ret
    exact ⟨by simp, rfl⟩
  · have d1 : (op == 1) = false := by simpa using h1
    have d2 : (op == 2) = false := by simpa using h2
    have d3 : (op == 3) = false := by simpa using h3
    have d4 : (op == 4) = false := by simpa using h4
    have d5 : (op == 5) = false := by simpa using h5
    have d6 : (op == 6) = false := by simpa using h6
    rw [if_neg h1, if_neg h2, if_neg h3, if_neg h4, if_neg h5, if_neg h6]
    go_enter Try.func80, Try.ntmps80
    go_wp2
    go_ret
    exact ⟨rfl, rfl⟩

/-- Does a rule hold? -/
def holdsRes (op : Int) (cl cr : List CodeV) (ss : List (List Ev)) : Bool := (evalRes ss cl).2 && (evalRes ss cr).2 && testNum op (evalRes ss cl).1 (evalRes ss cr).1
set_option maxHeartbeats 1000000 in
theorem holds_any {w : World} {A B C : Option Addr} {n c n2 c2 m c' : Nat} {cl cr : List CodeV} {ss : List (List Ev)} (op : Int) (hl : CodesAt w A n cl) (hr : CodesAt w C n2 cr) (hs : SetsAt w B m ss) (hn : n ≤ 100000) (hn2 : n2 ≤ 100000) (hm : m ≤ 1000000) (hms : ∀ s ∈ ss, s.length ≤ 1000000) :
    Calls Try.prog 68 #[.agg #[.int .i64 op, .slice A n c, .slice C n2 c2], .slice B m c'] w fun e w' => e = .returned (.bool (holdsRes op cl cr ss)) ∧ Below w.heap.size w w' := by
  have HL := Lib.hid hl
  have HR := Lib.hid hr
  have HS := Lib.hid hs
  have HM := Lib.hid hms
  clear hl hr hs hms
  unfold holdsRes
  go_enter Try.func68, Try.ntmps68
  go_wp2_with fail
  have hb0 : Below w.heap.size w (w.alloc (.cells #[.int .i64 op, .slice A n c, .slice C n2 c2] 59)) := bl_alloc (Below.refl _ w) _
  have hx0 := alloc_new w (.cells #[.int .i64 op, .slice A n c, .slice C n2 c2] 59)
  have hlt := block_lt hx0
  generalize w.alloc (.cells #[.int .i64 op, .slice A n c, .slice C n2 c2] 59) = w1 at *
  refine (eval_any (HL.out.below hb0) (HS.out.below hb0) hn hm HM.out).mono ?_
  rintro e w2 ⟨rfl, hb2⟩
  have hx2 := (hb2.block _ hlt).trans hx0
  have x2 : w2.cell? ⟨w.heap.size, 2, none⟩ = some (.slice C n2 c2) := cell_of_blk hx2 2
  have hb02 := bl_then hb0 hb2
  have hlt2 := block_lt hx2
  go_wp2_with fail
  refine (eval_any (HR.out.below hb02) (HS.out.below hb02) hn2 hm HM.out).mono ?_
  rintro e w3 ⟨rfl, hb3⟩
  have hx3 := (hb3.block _ hlt2).trans hx2
  have x0 : w3.cell? ⟨w.heap.size, 0, none⟩ = some (.int .i64 op) := cell_of_blk hx3 0
  have hb03 := bl_then hb02 hb3
  clear hx0 hx2 x2 hx3 hb0 hb2 hb3
  obtain ⟨a, one, hA⟩ : ∃ a one, evalRes ss cl = (a, one) := ⟨_, _, rfl⟩
  obtain ⟨b, two, hB⟩ : ∃ a one, evalRes ss cr = (a, one) := ⟨_, _, rfl⟩
  simp only [hA, hB]
  have HA := Lib.hid hA
  have HB := Lib.hid hB
  clear hA hB
  cases one <;> cases two
  iterate 3
    · go_wp2_with fail
      go_ret
      refine ⟨?_, hb03⟩
      rw [HA.out, HB.out]
      rfl
  · go_wp2_with fail
    refine (test_any _ _ _ _).mono ?_
    rintro e w4 ⟨rfl, rfl⟩
    go_wp2_with fail
    go_ret
    refine ⟨?_, hb03⟩
    rw [HA.out, HB.out]
    rfl

/-- A rule, as its cells and what its codes are. -/
structure RuleV where
  op : Int
  la : Option Addr
  ln : Nat
  lc : Nat
  l : List CodeV
  ra : Option Addr
  rn : Nat
  rc : Nat
  r : List CodeV
def RuleV.zero : RuleV := ⟨0, none, 0, 0, [], none, 0, 0, []⟩
def RuleV.cells (r : RuleV) : List Value := [.int .i64 r.op, .slice r.la r.ln r.lc, .slice r.ra r.rn r.rc]
structure RuleOk (w : World) (r : RuleV) : Prop where
  left : CodesAt w r.la r.ln r.l
  right : CodesAt w r.ra r.rn r.r
  ln : r.ln ≤ 1000
  rn : r.rn ≤ 1000
  lc : r.ln ≤ r.lc
  rc : r.rn ≤ r.rc
  lnil : r.la = none → r.ln = 0 ∧ r.lc = 0
  rnil : r.ra = none → r.rn = 0 ∧ r.rc = 0
theorem RuleOk.below {w w' : World} {r : RuleV} (h : RuleOk w r) (hb : Below w.heap.size w w') : RuleOk w' r := ⟨h.left.below hb, h.right.below hb, h.ln, h.rn, h.lc, h.rc, h.lnil, h.rnil⟩
/-- A row of rules that can be read. -/
structure RulesAt (w : World) (A : Option Addr) (n : Nat) (rs : List RuleV) : Prop where
  len : rs.length = n
  cells : 0 < n → ∃ b off, A = some ⟨b, off, none⟩ ∧ b < w.heap.size ∧ ∀ i, i < n → ∀ j, j < 3 → w.cell? ⟨b, off + i * 3 + j, none⟩ = (rs.getD i RuleV.zero).cells[j]?
  each : ∀ r ∈ rs, RuleOk w r
  few : n ≤ 1000
theorem RulesAt.below {w w' : World} {A : Option Addr} {n : Nat} {rs : List RuleV} (h : RulesAt w A n rs) (hb : Below w.heap.size w w') : RulesAt w' A n rs := by
  refine ⟨h.len, fun hp => ?_, fun r hr => (h.each r hr).below hb, h.few⟩
  obtain ⟨b, off, rfl, h2, hc⟩ := h.cells hp
  exact ⟨b, off, rfl, Nat.lt_of_lt_of_le h2 hb.size, fun i hi j hj => (World.cell?_of_block (hb.block b h2)).trans (hc i hi j hj)⟩
theorem RulesAt.at_ {w : World} {A : Option Addr} {n : Nat} {rs : List RuleV} (h : RulesAt w A n rs) {i : Nat} (hi : i < n) :
    ∃ b off r, A = some ⟨b, off, none⟩ ∧ rs[i]? = some r ∧ RuleOk w r ∧ w.cell? ⟨b, off + i * 3, none⟩ = some (.int .i64 r.op) ∧ w.cell? ⟨b, off + i * 3 + 1, none⟩ = some (.slice r.la r.ln r.lc) ∧ w.cell? ⟨b, off + i * 3 + 2, none⟩ = some (.slice r.ra r.rn r.rc) := by
  obtain ⟨b, off, rfl, h2, hc⟩ := h.cells (by omega)
  have hr := List.getElem?_eq_getElem (show i < rs.length by rw [h.len]; exact hi)
  have hg : rs.getD i RuleV.zero = rs[i]'(by rw [h.len]; exact hi) := by rw [List.getD_eq_getElem?_getD, hr]; rfl
  refine ⟨b, off, _, rfl, hr, h.each _ (List.mem_of_getElem? hr), ?_, ?_, ?_⟩
  · have := hc i hi 0 (by decide); rw [hg] at this; simpa [RuleV.cells] using this
  · have := hc i hi 1 (by decide); rw [hg] at this; simpa [RuleV.cells] using this
  · have := hc i hi 2 (by decide); rw [hg] at this; simpa [RuleV.cells] using this
/-- Do all rules hold? -/
def ruleRes (ss : List (List Ev)) (r : RuleV) : Bool := holdsRes r.op r.l r.r ss
def allRes (rs : List RuleV) (ss : List (List Ev)) : Bool := rs.all (ruleRes ss)
theorem all_take {rs : List RuleV} {ss : List (List Ev)} {I : Nat} {r : RuleV} (h : rs[I]? = some r) (ht : allRes (rs.take I) ss = true) (hr : ruleRes ss r = true) : allRes (rs.take (I + 1)) ss = true := by
  unfold allRes at *
  rw [List.take_add_one, h, List.all_append, ht]
  simp [hr]
theorem all_false {rs : List RuleV} {ss : List (List Ev)} {I : Nat} {r : RuleV} (h : rs[I]? = some r) (hr : ruleRes ss r = false) : allRes rs ss = false := by
  unfold allRes
  rw [List.all_eq_false]
  exact ⟨r, List.mem_of_getElem? h, by simp [hr]⟩
set_option maxHeartbeats 2000000 in
theorem all_any {w : World} {A B : Option Addr} {n c m c' : Nat} {rs : List RuleV} {ss : List (List Ev)} (h : RulesAt w A n rs) (hs : SetsAt w B m ss) (hm : m ≤ 1000000) (hms : ∀ s ∈ ss, s.length ≤ 1000000) :
    Calls Try.prog 52 #[.slice A n c, .slice B m c'] w fun e w' => e = .returned (.bool (allRes rs ss)) ∧ Below w.heap.size w w' := by
  have hf := h.few
  have H := Lib.hid h
  have HS := Lib.hid hs
  have HM := Lib.hid hms
  clear h hs hms
  go_enter Try.func52, Try.ntmps52
  go_wp2_with fail
  go_loopw [9] (fun i wr => ∃ I : Nat, I ≤ n ∧ i = .int .i64 I ∧ Below w.heap.size w wr ∧ Hid (allRes (rs.take I) ss = true)) (fun i _ => n - (intOf i).toNat)
  case atStart => exact ⟨0, Nat.zero_le _, rfl, Below.refl _ _, Lib.hid rfl⟩
  case round =>
    obtain ⟨I, hI, rfl, hb, HT⟩ := hrel
    have HB := Lib.hid hb
    by_cases hlt : I < n
    · have iI : (I : Int) < n := by omega
      obtain ⟨b, off, r, rfl, hr, hok, h0, h1, h2⟩ := (H.out.below hb).at_ hlt
      have HR := Lib.hid hr
      have HK := Lib.hid hok
      clear hb hr hok
      go_wp2_with fail
      have hb2 : Below wr.heap.size wr (wr.alloc (.cells #[.int .i64 r.op, .slice r.la r.ln r.lc, .slice r.ra r.rn r.rc] 59)) := bl_alloc (Below.refl _ _) _
      refine (holds_any r.op (HK.out.left.below hb2) (HK.out.right.below hb2) (HS.out.below (bl_then HB.out hb2)) (Nat.le_trans HK.out.ln (by decide)) (Nat.le_trans HK.out.rn (by decide)) hm HM.out).mono ?_
      rintro e w2 ⟨rfl, hb3⟩
      have HB2 := Lib.hid (bl_then HB.out (bl_then hb2 hb3))
      clear hb2 hb3 h0 h1 h2
      cases hv : holdsRes r.op r.l r.r ss with
      | true =>
        have HV := Lib.hid hv
        clear hv
        go_wp2_with fail
        go_roundw
        case rel => exact ⟨I + 1, hlt, by simp, HB2.out, Lib.hid (all_take HR.out HT.out HV.out)⟩
        case measure => simp [intOf]; omega
      | false =>
        have HV := Lib.hid hv
        clear hv
        go_wp2_with fail
        go_ret
        refine ⟨?_, HB2.out⟩
        rw [all_false HR.out HV.out]
        rfl
    · have iI : ¬ (I : Int) < n := by omega
      obtain rfl : I = n := by omega
      go_wp2_with fail
      go_ret
      refine ⟨?_, HB.out⟩
      have := HT.out
      rw [List.take_of_length_le (by rw [H.out.len]; exact Nat.le_refl _)] at this
      rw [this]
      rfl
end Go.Proofs.Ytecdnpdmjbcioaa
