/- Chapter 5: rows of codes that are made by appends, in a list and in a region that draws. -/
import Derived.Test.YtjapgmaldfckkaaSignsPure
import Derived.Maps.AppendAt
import Derived.Deep.AppendLies
namespace Go.Proofs.Ytjapgmaldfckkaa
open Go.RowKit
set_option linter.unusedVariables false
set_option linter.unusedSimpArgs false

/-- A row of codes that has been made since w0. -/
structure Acc (w0 w : World) (v : Value) (n : Nat) (cs : List CodeV) : Prop where
  bel : Below w0.heap.size w0 w
  own : w.ownsRow w0.heap.size 37 5 v n (codeCells cs)
theorem codes_one (cs : List CodeV) : ∀ u ∈ codeCells cs, u.oneCell' = true := by
  intro u hu
  obtain ⟨c, _, hc⟩ := List.mem_flatMap.1 hu
  simp only [CodeV.cells, List.mem_cons, List.not_mem_nil, or_false] at hc
  rcases hc with rfl | rfl | rfl | rfl | rfl <;> rfl
theorem codeCells_append (a b : List CodeV) : codeCells (a ++ b) = codeCells a ++ codeCells b := by simp [codeCells]
theorem Acc.empty (w0 : World) : Acc w0 (w0.alloc (.cells #[] 37)) (.slice (some ⟨w0.heap.size, 0, none⟩) 0 0) 0 [] :=
  ⟨bl_alloc (Below.refl _ _) _, rfl, .inr ⟨w0.heap.size, 0, #[], rfl, Nat.le_refl _, alloc_new w0 _, Nat.le_refl _, by simp [maxLen], rfl, rfl⟩⟩
theorem Acc.later {w0 w1 w : World} {v : Value} {n : Nat} {cs : List CodeV} (h : Acc w1 w v n cs) (hb : Below w0.heap.size w0 w1) : Acc w0 w v n cs := ⟨bl_then hb h.bel, ownsRow_base h.own hb.size⟩
theorem Acc.empty' (w0 : World) {N : Nat} (hN : w0.heap.size = N) : Acc w0 (w0.alloc (.cells #[] 37)) (.slice (some ⟨N, 0, none⟩) 0 0) 0 [] := by
  subst hN
  exact Acc.empty w0
theorem Acc.lit (w0 : World) (cs : List CodeV) {n : Nat} (hl : cs.length = n) (hs : n ≤ 1000000) {l : List Value} (he : l = codeCells cs) : Acc w0 (w0.alloc (.cells l.toArray 37)) (.slice (some ⟨w0.heap.size, 0, none⟩) n n) n cs := by
  subst hl he
  have h := codeCells_length cs
  exact ⟨bl_alloc (Below.refl _ _) _, by rw [h], .inr ⟨w0.heap.size, cs.length, (codeCells cs).toArray, rfl, Nat.le_refl _, alloc_new w0 _, Nat.le_refl _, by simp only [maxLen]; omega, by simp [h], by rw [List.toList_toArray]; exact List.take_of_length_le (by omega)⟩⟩
theorem Acc.alloc {w0 w : World} {v : Value} {n : Nat} {cs : List CodeV} (h : Acc w0 w v n cs) (o : Obj) : Acc w0 (w.alloc o) v n cs := ⟨bl_alloc h.bel _, h.own.alloc _⟩
theorem Acc.below {w0 w w' : World} {v : Value} {n : Nat} {cs : List CodeV} (h : Acc w0 w v n cs) (hb : Below w.heap.size w w') : Acc w0 w' v n cs := ⟨bl_then h.bel hb, own_below h.own hb⟩
theorem Acc.form {w0 w : World} {v : Value} {n : Nat} {cs : List CodeV} (h : Acc w0 w v n cs) : ∃ A c, v = .slice A n c := own_form h.own
theorem Acc.at_ {w0 w : World} {A : Option Addr} {n c : Nat} {cs : List CodeV} (h : Acc w0 w (.slice A n c) n cs) : CodesAt w A n cs := CodesAt.of_own h.own
theorem Reads.codes {w0 w : World} {v : Value} {n : Nat} {cs : List CodeV} (h : Acc w0 w v n cs) : Reads w 5 v n (codeCells cs) := Reads.of_own h.own (codes_one cs)
theorem Acc.drew {w0 w : World} {v : Value} {n : Nat} {cs : List CodeV} (h : Acc w0 w v n cs) : Acc w0 w.drew v n cs := ⟨bl_drew h.bel, h.own⟩
theorem Acc.of_drew {w0 w : World} {v : Value} {n : Nat} {cs : List CodeV} (h : Acc w0.drew w v n cs) : Acc w0 w v n cs := ⟨⟨h.bel.os, h.bel.tape, h.bel.output, h.bel.size, h.bel.block⟩, h.own⟩
/-- A literal row, wherever its block lies. -/
theorem Reads.lit {w : World} {b : Nat} {l : List Value} (h : w.heap[b]? = some (.cells l.toArray 37)) (cs : List CodeV) {n : Nat} (hl : cs.length = n) (he : l = codeCells cs) : Reads w 5 (.slice (some ⟨b, 0, none⟩) n n) n (codeCells cs) := by
  subst hl he
  refine ⟨codeCells_length cs, codes_one cs, .inl ⟨⟨b, 0, none⟩, _, rfl, fun j u hj => ?_⟩⟩
  have := cell_of_blk h j
  rw [hj] at this
  simpa [Addr.add_lit] using this
theorem grown_keeps {w w' : World} {g b : Nat} {o : Obj} (h : w.heap[b]? = some o) (hg : w.grownBy w' (some g)) (hne : b ≠ g) : w'.heap[b]? = some o := (hg.block b (block_lt h) (fun e => hne (by injection e))).trans h
theorem step_append_codes (w0 : World) {w : World} {ops : Array Oper} {o : Oper} {a : Act} {K : Act → World → Prop} {Q : Exit → Act → World → Prop} {E : Prop} (hgd : o.guard = none) (s x : Operand)
    (ho : o.op = .call { callee := .builtin .append, args := #[s, x], argTypes := #[33, 33] })
    {v : Value} {n : Nat} {cs : List CodeV} (hacc : Acc w0 w v n cs) (hs : a.eval s = v) {xv : Value} {m : Nat} {ds : List CodeV} (hr : Reads w 5 xv m (codeCells ds)) (hx : a.eval x = xv) (hn : n + m ≤ 1000000) (k : Nat) (hk : n + m = k)
    (h : ∀ A c w', Acc w0 w' (.slice A k c) k (cs ++ ds) → w.grownBy w' v.ownBlock → K (a.put o.dst (.slice A k c)) w') :
    if Region.wanted o (yielded ops a.tmps) = true then Oper.wp Try.prog o a w K Q else E := by
  have hw : Region.wanted o (yielded ops a.tmps) = true := by simp [Region.wanted, hgd]
  rw [if_pos hw]
  subst hk
  obtain ⟨i0, hi, hz0, hz1, hz2⟩ := info_parts infoCode
  rcases hr.at_ with ⟨ad, c, rfl, hc⟩ | ⟨rfl, rfl⟩
  · obtain ⟨v', w', hrun, hown, hgr, _, _⟩ := run_append_own_at (P := Try.prog) w w0.heap.size 33 o.type 37 i0 _ 5 48 Try.underlying33 hi hz0 hz1 hz2 rfl (by decide) v n (codeCells cs) hacc.own ad m c (codeCells ds) hr.len hc hr.one (by simp only [maxLen]; omega) (by omega) hacc.bel.size
    rw [← codeCells_append] at hown
    have hb : Below w0.heap.size w0 w' := ⟨hgr.os.trans hacc.bel.os, hgr.tape.trans hacc.bel.tape, hgr.output.trans hacc.bel.output, Nat.le_trans hacc.bel.size hgr.size, fun k hk => (hgr.block k (Nat.lt_of_lt_of_le hk hacc.bel.size) (fun e => by have := own_block hacc.own e.symm; omega)).trans (hacc.bel.block k hk)⟩
    obtain ⟨A, c', rfl⟩ := own_form hown
    unfold Oper.wp execOp
    simp only [ho, resolve, invoke, builtin, Sem.run_bind, Sem.run_pure, Result.andThen_ok, List.map_toArray, List.map_cons, List.map_nil, hs, hx, hrun]
    exact h A c' w' ⟨hb, hown⟩ hgr
  · have hd : ds = [] := by
      have := hr.len
      rw [codeCells_length] at this
      exact List.eq_nil_of_length_eq_zero (by omega)
    subst hd
    have hrun := run_append_owned_none (P := Try.prog) (w := w) w0.heap.size 33 o.type 37 i0 5 Try.underlying33 hi v n (codeCells cs) hacc.own
    obtain ⟨A, c', rfl⟩ := hacc.form
    unfold Oper.wp
    simp [execOp, ho, resolve, invoke, builtin, hs, hx, hrun, Result.andThen]
    exact h A c' w (by rw [Nat.add_zero, List.append_nil]; exact hacc) ⟨rfl, rfl, rfl, Nat.le_refl _, fun _ _ _ => rfl⟩
theorem wpList_append_codes (w0 : World) {w : World} {ops : Array Oper} {rest : List Oper} {o : Oper} {a : Act} {Q : Exit → Act → World → Prop} (hgd : o.guard = none) (s x : Operand)
    (ho : o.op = .call { callee := .builtin .append, args := #[s, x], argTypes := #[33, 33] })
    {v : Value} {n : Nat} {cs : List CodeV} (hacc : Acc w0 w v n cs) (hs : a.eval s = v) {xv : Value} {m : Nat} {ds : List CodeV} (hr : Reads w 5 xv m (codeCells ds)) (hx : a.eval x = xv) (hn : n + m ≤ 1000000) (k : Nat) (hk : n + m = k)
    (h : ∀ A c w', Acc w0 w' (.slice A k c) k (cs ++ ds) → wpList Try.prog ops Q rest (a.put o.dst (.slice A k c)) w') : wpList Try.prog ops Q (o :: rest) a w := by
  obtain ⟨i0, hi, hz0, hz1, hz2⟩ := info_parts infoCode
  subst hk
  refine wpList_append_reads w hgd s x 33 ho w0.heap.size 37 i0 _ 5 48 Try.underlying33 hi hz0 hz1 hz2 rfl (by decide) v n (codeCells cs) hs hacc.own xv m (codeCells ds) hx hr (by simp only [maxLen]; omega) (by omega) hacc.bel.size ?_
  intro v' w' hown hgr
  rw [← codeCells_append] at hown
  have hb : Below w0.heap.size w0 w' := ⟨hgr.os.trans hacc.bel.os, hgr.tape.trans hacc.bel.tape, hgr.output.trans hacc.bel.output, Nat.le_trans hacc.bel.size hgr.size, fun k hk => (hgr.block k (Nat.lt_of_lt_of_le hk hacc.bel.size) (fun e => by have := own_block hacc.own e.symm; omega)).trans (hacc.bel.block k hk)⟩
  obtain ⟨A, c, rfl⟩ := own_form hown
  exact h A c w' ⟨hb, hown⟩
end Go.Proofs.Ytjapgmaldfckkaa
