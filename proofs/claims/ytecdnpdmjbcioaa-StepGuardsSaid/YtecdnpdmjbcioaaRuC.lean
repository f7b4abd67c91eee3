/- The document's Eval. -/
import Derived.Test.YtecdnpdmjbcioaaRuB
import Derived.Maps.AppendAt
import Derived.Deep.AppendLies
import Derived.StillTailTactics
namespace Go.Proofs.Ytecdnpdmjbcioaa
open Go.RowKit
set_option linter.unusedVariables false
set_option linter.unusedSimpArgs false

theorem evalDo_bad (op : Int) (s : List Int) : (evalDo op (s, false)).2 = false := by simp [evalDo]
theorem evalOne_bad (ss : List (List Ev)) (s : List Int × Bool) (c : CodeV) (h : s.2 = false) : (evalOne ss s c).2 = false := by
  unfold evalOne
  split
  · simp [h]
  split
  · simp [h]
  split
  · split <;> simp [h]
  split
  · simp [evalDo, evalNeg, h]
  · simp [evalDo, h]
theorem fold_bad (ss : List (List Ev)) : ∀ (cs : List CodeV) (s : List Int × Bool), s.2 = false → (cs.foldl (evalOne ss) s).2 = false
  | [], s, h => h
  | c :: cs, s, h => fold_bad ss cs _ (evalOne_bad ss s c h)
theorem evalRes_bad {ss : List (List Ev)} {cs : List CodeV} {k : Nat} (h : (evalRun ss (cs.take k)).2 = false) : evalRes ss cs = (0, false) := by
  have : (evalRun ss cs).2 = false := by
    unfold evalRun at *
    rw [← List.take_append_drop k cs, List.foldl_append]
    exact fold_bad ss _ _ h
  unfold evalRes
  rw [this]
  simp
theorem evalRes_one {ss : List (List Ev)} {cs : List CodeV} {x : Int} (h : evalRun ss cs = ([x], true)) : evalRes ss cs = (x, true) := by
  unfold evalRes
  rw [h]
  rfl
theorem evalRes_many {ss : List (List Ev)} {cs : List CodeV} {st : List Int} (h : evalRun ss cs = (st, true)) (hl : st.length ≠ 1) : evalRes ss cs = (0, false) := by
  unfold evalRes
  rw [h]
  simp [hl]
theorem evalNeg_nil : evalNeg ([], true) = ([0], false) := rfl
theorem wrap_zero_sub (x : Int) : (doNum 2 0 x) = (wrap64 (0 - x), true) := by
  show (wrap64 (0 + wrap64 (-x)), true) = _
  rw [sub_wrap]
theorem evalOne_num {ss : List (List Ev)} {st : List Int} {c : CodeV} (h : c.op = 6) : evalOne ss (st, true) c = (st ++ [c.n], true) := by unfold evalOne; rw [if_pos h]; rfl
theorem evalOne_count {ss : List (List Ev)} {st : List Int} {c : CodeV} (h : c.op = 8) : evalOne ss (st, true) c = (st ++ [((setOf ss c.at_).length : Int)], true) := by unfold evalOne; rw [if_neg (by omega), if_pos h]; rfl
theorem evalOne_field {ss : List (List Ev)} {st : List Int} {c : CodeV} (h : c.op = 7) (h1 : 0 < (setOf ss c.at_).length) (h2 : 0 ≤ c.field) (h3 : c.field < 4) : evalOne ss (st, true) c = (st ++ [(lastOf ss c.at_).num c.field], true) := by
  unfold evalOne; rw [if_neg (by omega), if_neg (by omega), if_pos h, if_pos ⟨h1, h2, h3⟩]; rfl
theorem evalOne_nofield {ss : List (List Ev)} {st : List Int} {c : CodeV} (h : c.op = 7) (h1 : ¬ (0 < (setOf ss c.at_).length ∧ 0 ≤ c.field ∧ c.field < 4)) : (evalOne ss (st, true) c).2 = false := by
  unfold evalOne; rw [if_neg (by omega), if_neg (by omega), if_pos h, if_neg h1]; rfl
theorem evalOne_neg0 {ss : List (List Ev)} {c : CodeV} (h : c.op = 9) : (evalOne ss ([], true) c).2 = false := by
  unfold evalOne; rw [if_neg (by omega), if_neg (by omega), if_neg (by omega), if_pos h, evalNeg_nil]; exact evalDo_bad _ _
theorem evalOne_neg {ss : List (List Ev)} {pre : List Int} {x : Int} {c : CodeV} (h : c.op = 9) : evalOne ss (pre ++ [x], true) c = (pre ++ [wrap64 (0 - x)], true) := by
  unfold evalOne
  rw [if_neg (by omega), if_neg (by omega), if_neg (by omega), if_pos h, evalNeg_snoc, evalDo_snoc2, wrap_zero_sub]
  simp
theorem evalOne_do {ss : List (List Ev)} {s : List Int × Bool} {c : CodeV} (h6 : c.op ≠ 6) (h7 : c.op ≠ 7) (h8 : c.op ≠ 8) (h9 : c.op ≠ 9) : evalOne ss s c = evalDo c.op s := by
  unfold evalOne; rw [if_neg h6, if_neg h8, if_neg h7, if_neg h9]
theorem evalDo_few {op : Int} {st : List Int} (h : st.length < 2) : (evalDo op (st, true)).2 = false := by
  match st, h with
  | [], _ => simp [evalDo]
  | [x], _ => simp [evalDo]
theorem evalDo_two {op : Int} {pre : List Int} {a b : Int} : evalDo op (pre ++ [a, b], true) = (pre ++ [(doNum op a b).1], (doNum op a b).2) := by
  rw [evalDo_snoc2]
  have : (pre ++ [a, b]) = (pre ++ [a]) ++ [b] := by simp
  rw [this, List.dropLast_concat, List.dropLast_concat]
  simp
/-- A row of numbers that has been made since w0. -/
structure IAcc (w0 w : World) (v : Value) (n : Nat) (st : List Int) : Prop where
  bel : Below w0.heap.size w0 w
  own : w.ownsRow w0.heap.size 2 1 v n (ints st)
theorem ints_append (a b : List Int) : ints (a ++ b) = ints a ++ ints b := by simp [ints]
theorem IAcc.apart {w0 w : World} {v : Value} {n : Nat} {st : List Int} (h : IAcc w0 w v n st) : ∀ g, v.ownBlock = some g → w0.heap.size ≤ g ∧ g < w.heap.size := fun g hg => by
  rcases h.own.2 with ⟨rfl, _⟩ | ⟨g', cap, cur, rfl, hlo, hg', _⟩
  · cases hg
  · injection hg with hg; subst hg; exact ⟨hlo, block_lt hg'⟩
theorem IAcc.empty' (w0 : World) {N : Nat} (hN : w0.heap.size = N) : IAcc w0 (w0.alloc (.cells #[] 2)) (.slice (some ⟨N, 0, none⟩) 0 0) 0 [] := by
  subst hN
  exact ⟨bl_alloc (Below.refl _ _) _, rfl, .inr ⟨w0.heap.size, 0, #[], rfl, Nat.le_refl _, alloc_new w0 _, Nat.le_refl _, by simp [maxLen], rfl, rfl⟩⟩
theorem IAcc.later {w0 w1 w : World} {v : Value} {n : Nat} {st : List Int} (h : IAcc w1 w v n st) (hb : Below w0.heap.size w0 w1) : IAcc w0 w v n st := ⟨bl_then hb h.bel, ownsRow_base h.own hb.size⟩
theorem IAcc.alloc {w0 w : World} {v : Value} {n : Nat} {st : List Int} (h : IAcc w0 w v n st) (o : Obj) : IAcc w0 (w.alloc o) v n st := ⟨bl_alloc h.bel _, h.own.alloc _⟩
theorem ownsRow_bel {W W' : World} {lo : Nat} {e : TypeId} {size : Nat} {v : Value} {n : Nat} {xs : List Value} (h : W.ownsRow lo e size v n xs) (hb : Below W.heap.size W W') : W'.ownsRow lo e size v n xs :=
  ownsRow_kept h (Only.of_below (S := fun _ => False) hb) (fun _ h => h.elim)
theorem IAcc.below {w0 w w' : World} {v : Value} {n : Nat} {st : List Int} (h : IAcc w0 w v n st) (hb : Below w.heap.size w w') : IAcc w0 w' v n st := ⟨bl_then h.bel hb, ownsRow_bel h.own hb⟩
theorem IAcc.drew {w0 w : World} {v : Value} {n : Nat} {st : List Int} (h : IAcc w0 w v n st) : IAcc w0 w.drew v n st := ⟨bl_drew h.bel, h.own⟩
theorem IAcc.form {w0 w : World} {v : Value} {n : Nat} {st : List Int} (h : IAcc w0 w v n st) : ∃ A c, v = .slice A n c := own_form h.own
theorem IAcc.reads {w0 w : World} {v : Value} {n : Nat} {st : List Int} (h : IAcc w0 w v n st) : Reads w 1 v n (ints st) := Reads.of_own h.own (ints_one st)
theorem IAcc.len {w0 w : World} {v : Value} {n : Nat} {st : List Int} (h : IAcc w0 w v n st) : st.length = n := by
  have := h.own.1
  rw [ints, List.length_map, Nat.mul_one] at this
  exact this
theorem IAcc.take {w0 w : World} {A : Option Addr} {n c : Nat} {st : List Int} (h : IAcc w0 w (.slice A n c) n st) (k : Nat) (hk : k ≤ n) : IAcc w0 w (.slice A k c) k (st.take k) := by
  refine ⟨h.bel, ?_⟩
  have := ownsRow_take h.own k hk
  rw [Nat.mul_one, ints, ← List.map_take] at this
  exact this
theorem IAcc.at_ {w0 w : World} {A : Option Addr} {n c : Nat} {st : List Int} (h : IAcc w0 w (.slice A n c) n st) (h0 : 0 < n) : ∃ g, A = some ⟨g, 0, none⟩ ∧ n ≤ c ∧ w0.heap.size ≤ g ∧ g < w.heap.size ∧ ∀ j x, st[j]? = some x → w.cell? ⟨g, j, none⟩ = some (.int .i64 x) := by
  obtain ⟨g, hg, hlo, hc, hlt, hcell⟩ := own_some h.own h0
  exact ⟨g, hg, hc, hlo, hlt, fun j x hx => hcell j _ (by rw [ints, List.getElem?_map, hx]; rfl)⟩
/-- A row of one number, wherever it lies. -/
theorem reads_one {w : World} {b : Nat} {x : Int} (h : w.heap[b]? = some (.cells #[.int .i64 x] 2 (0, 0))) : Reads w 1 (.slice (some ⟨b, 0, none⟩) 1 1) 1 (ints [x]) := by
  refine ⟨rfl, ints_one _, .inl ⟨⟨b, 0, none⟩, _, rfl, fun j u hj => ?_⟩⟩
  have := cell_of_blk (cs := [.int .i64 x]) h j
  rw [show ints [x] = [Value.int .i64 x] from rfl] at hj
  rw [hj] at this
  simpa [Addr.add_lit] using this
theorem grown_keeps {w w' : World} {g b : Nat} {o : Obj} (h : w.heap[b]? = some o) (hg : w.grownBy w' (some g)) (hne : b ≠ g) : w'.heap[b]? = some o := (hg.block b (block_lt h) (fun e => hne (by injection e))).trans h
theorem push_bel {w0 w w' : World} {v : Value} {n : Nat} {st : List Int} (hacc : IAcc w0 w v n st) (hgr : w.grownBy w' v.ownBlock) : Below w0.heap.size w0 w' :=
  ⟨hgr.os.trans hacc.bel.os, hgr.tape.trans hacc.bel.tape, hgr.output.trans hacc.bel.output, Nat.le_trans hacc.bel.size hgr.size, fun k hk => (hgr.block k (Nat.lt_of_lt_of_le hk hacc.bel.size) (fun e => by have := own_block hacc.own e.symm; omega)).trans (hacc.bel.block k hk)⟩
theorem alloc_new' (w : World) (o : Obj) (k : Nat) (hk : w.heap.size = k) : (w.alloc o).heap[k]? = some o := by subst hk; exact alloc_new w o
theorem step_append_ints (w0 : World) {w : World} {ops : Array Oper} {o : Oper} {a : Act} {K : Act → World → Prop} {Q : Exit → Act → World → Prop} {E : Prop} (hgd : o.guard = none) (s x : Operand)
    (ho : o.op = .call { callee := .builtin .append, args := #[s, x], argTypes := #[120, 120] })
    {v : Value} {n : Nat} {st : List Int} (hacc : IAcc w0 w v n st) (hs : a.eval s = v) {xv : Value} {m : Nat} {ds : List Int} (hr : Reads w 1 xv m (ints ds)) (hx : a.eval x = xv) (hn : n + m ≤ 1000000) (k : Nat) (hk : n + m = k)
    (h : ∀ A c w', IAcc w0 w' (.slice A k c) k (st ++ ds) → w.grownBy w' v.ownBlock → K (a.put o.dst (.slice A k c)) w') :
    if Region.wanted o (yielded ops a.tmps) = true then Oper.wp Try.prog o a w K Q else E := by
  have hw : Region.wanted o (yielded ops a.tmps) = true := by simp [Region.wanted, hgd]
  rw [if_pos hw]
  subst hk
  obtain ⟨i0, hi, hz0, hz1, hz2⟩ := info_parts infoInt
  rcases hr.at_ with ⟨ad, c, rfl, hc⟩ | ⟨rfl, rfl⟩
  · obtain ⟨v', w', hrun, hown, hgr, _, _⟩ := run_append_own_at (P := Try.prog) w w0.heap.size 120 o.type 2 i0 _ 1 8 Try.underlying120 hi hz0 hz1 hz2 rfl (by decide) v n (ints st) hacc.own ad m c (ints ds) hr.len hc hr.one (by simp only [maxLen]; omega) (by omega) hacc.bel.size
    rw [← ints_append] at hown
    have hb := push_bel hacc hgr
    obtain ⟨A, c', rfl⟩ := own_form hown
    unfold Oper.wp execOp
    simp only [ho, resolve, invoke, builtin, Sem.run_bind, Sem.run_pure, Result.andThen_ok, List.map_toArray, List.map_cons, List.map_nil, hs, hx, hrun]
    exact h A c' w' ⟨hb, hown⟩ hgr
  · have hd : ds = [] := by
      have := hr.len
      rw [ints, List.length_map] at this
      exact List.eq_nil_of_length_eq_zero (by omega)
    subst hd
    have hrun := run_append_owned_none (P := Try.prog) (w := w) w0.heap.size 120 o.type 2 i0 1 Try.underlying120 hi v n (ints st) hacc.own
    obtain ⟨A, c', rfl⟩ := hacc.form
    unfold Oper.wp
    simp [execOp, ho, resolve, invoke, builtin, hs, hx, hrun, Result.andThen]
    exact h A c' w (by rw [Nat.add_zero, List.append_nil]; exact hacc) ⟨rfl, rfl, rfl, Nat.le_refl _, fun _ _ _ => rfl⟩
theorem wpList_append_ints (w0 : World) {w : World} {ops : Array Oper} {rest : List Oper} {o : Oper} {a : Act} {Q : Exit → Act → World → Prop} (hgd : o.guard = none) (s x : Operand)
    (ho : o.op = .call { callee := .builtin .append, args := #[s, x], argTypes := #[120, 120] })
    {v : Value} {n : Nat} {st : List Int} (hacc : IAcc w0 w v n st) (hs : a.eval s = v) {xv : Value} {m : Nat} {ds : List Int} (hr : Reads w 1 xv m (ints ds)) (hx : a.eval x = xv) (hn : n + m ≤ 1000000) (k : Nat) (hk : n + m = k)
    (h : ∀ A c w', IAcc w0 w' (.slice A k c) k (st ++ ds) → wpList Try.prog ops Q rest (a.put o.dst (.slice A k c)) w') : wpList Try.prog ops Q (o :: rest) a w := by
  obtain ⟨i0, hi, hz0, hz1, hz2⟩ := info_parts infoInt
  subst hk
  refine wpList_append_reads w hgd s x 120 ho w0.heap.size 2 i0 _ 1 8 Try.underlying120 hi hz0 hz1 hz2 rfl (by decide) v n (ints st) hs hacc.own xv m (ints ds) hx hr (by simp only [maxLen]; omega) (by omega) hacc.bel.size ?_
  intro v' w' hown hgr
  rw [← ints_append] at hown
  obtain ⟨A, c, rfl⟩ := own_form hown
  exact h A c w' ⟨push_bel hacc hgr, hown⟩
end Go.Proofs.Ytecdnpdmjbcioaa
