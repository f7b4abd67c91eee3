/- Chapter 5: plain laws of what is reckoned: a stack's lower part stays; ranges. -/
import Derived.Test.YtjapgmaldfckkaaHolds
namespace Go.Proofs.Ytjapgmaldfckkaa
open Go.RowKit
set_option linter.unusedVariables false
set_option linter.unusedSimpArgs false

theorem snoc_of_ne {α : Type} (l : List α) (h : l ≠ []) : ∃ p x, l = p ++ [x] := by
  rcases List.eq_nil_or_concat l with rfl | ⟨p, x, rfl⟩
  · exact absurd rfl h
  · exact ⟨p, x, by rw [List.concat_eq_append]⟩
theorem evalDo_pre (op : Int) (p l : List Int) (b : Bool) (h : (evalDo op (l, b)).2 = true) : b = true ∧ (evalDo op (p ++ l, true)) = (p ++ (evalDo op (l, b)).1, true) := by
  simp only [evalDo, Bool.and_eq_true, Bool.not_eq_true', List.isEmpty_eq_false_iff] at h
  obtain ⟨⟨⟨rfl, h1⟩, h2⟩, h3⟩ := h
  refine ⟨rfl, ?_⟩
  obtain ⟨q, y, rfl⟩ := snoc_of_ne l h1
  rw [List.dropLast_concat] at h2
  obtain ⟨q, x, rfl⟩ := snoc_of_ne q h2
  have e1 : p ++ (q ++ [x] ++ [y]) = (p ++ q ++ [x]) ++ [y] := by simp
  simp only [evalDo, e1, List.dropLast_concat, List.getLast?_concat, Option.getD_some] at h3 ⊢
  rw [h3]
  have n1 : (p ++ q ++ [x] ++ [y]).isEmpty = false := by simp
  have n2 : (p ++ q ++ [x]).isEmpty = false := by simp
  rw [n1, n2]
  simp
theorem evalOne_pre (ss : List (List Ev)) (c : CodeV) (p l : List Int) (b : Bool) (h : (evalOne ss (l, b) c).2 = true) : b = true ∧ evalOne ss (p ++ l, true) c = (p ++ (evalOne ss (l, b) c).1, true) := by
  unfold evalOne at h ⊢
  split at h
  · simp at h; subst h; rename_i h6; rw [if_pos h6, if_pos h6]; simp
  rename_i h6
  rw [if_neg h6, if_neg h6]
  split at h
  · simp at h; subst h; rename_i h8; rw [if_pos h8, if_pos h8]; simp
  rename_i h8
  rw [if_neg h8, if_neg h8]
  split at h
  · rename_i h7
    rw [if_pos h7, if_pos h7]
    split at h
    · rename_i hc
      rw [if_pos hc, if_pos hc]
      simp at h; subst h; simp
    · simp at h
  rename_i h7
  rw [if_neg h7, if_neg h7]
  split at h
  · rename_i h9
    rw [if_pos h9, if_pos h9]
    rcases List.eq_nil_or_concat l with rfl | ⟨q, x, rfl⟩
    · simp [evalNeg, evalDo] at h
    · rw [List.concat_eq_append] at h ⊢
      rw [evalNeg_snoc] at h ⊢
      rw [show p ++ (q ++ [x]) = (p ++ q) ++ [x] by simp, evalNeg_snoc, show (p ++ q) ++ [0, x] = p ++ (q ++ [0, x]) by simp]
      exact evalDo_pre 2 p _ b h
  · rename_i h9
    rw [if_neg h9, if_neg h9]
    exact evalDo_pre c.op p _ b h
theorem run_pre (ss : List (List Ev)) (p : List Int) : ∀ (cs : List CodeV) (l : List Int) (b : Bool), (cs.foldl (evalOne ss) (l, b)).2 = true → b = true ∧ cs.foldl (evalOne ss) (p ++ l, true) = (p ++ (cs.foldl (evalOne ss) (l, b)).1, true) := by
  intro cs
  induction cs with
  | nil => intro l b h; exact ⟨h, rfl⟩
  | cons c cs ih =>
    intro l b h
    rw [List.foldl_cons] at h ⊢
    rw [List.foldl_cons]
    obtain ⟨l2, b2, he⟩ : ∃ l2 b2, evalOne ss (l, b) c = (l2, b2) := ⟨_, _, rfl⟩
    rw [he] at h ⊢
    obtain ⟨rfl, h2⟩ := ih l2 b2 h
    have h3 := evalOne_pre ss c p l b (by rw [he])
    rw [h3.2, he]
    exact ⟨h3.1, h2⟩
theorem run_of_res {ss : List (List Ev)} {cs : List CodeV} {n : Int} (h : evalRes ss cs = (n, true)) : evalRun ss cs = ([n], true) := by
  unfold evalRes at h
  split at h
  · rename_i hc
    generalize evalRun ss cs = r at *
    obtain ⟨l, b⟩ := r
    simp only at hc h
    obtain ⟨rfl, hl⟩ := hc
    match l, hl with
    | [x], _ => simp at h; subst h; rfl
  · simp at h
theorem res_of_run {ss : List (List Ev)} {cs : List CodeV} {n : Int} (h : evalRun ss cs = ([n], true)) : evalRes ss cs = (n, true) := by
  unfold evalRes
  rw [h]
  rfl
theorem res_sub {ss : List (List Ev)} {cs : List CodeV} {n : Int} (h : evalRes ss cs = (n, true)) : evalRes ss (cs ++ cs ++ [⟨2, 0, ⟨#[]⟩, 0, 0⟩]) = (0, true) := by
  have h1 := run_of_res h
  refine res_of_run ?_
  unfold evalRun at h1 ⊢
  rw [List.foldl_append, List.foldl_append, h1]
  have h2 := (run_pre ss [n] cs [] true (by rw [h1])).2
  rw [List.append_nil, h1] at h2
  rw [h2]
  simp [evalOne, evalDo, doNum, wrap64]
  omega
theorem neg_one (ss : List (List Ev)) (n : Int) : evalOne ss ([n], true) ⟨9, 0, ⟨#[]⟩, 0, 0⟩ = ([wrap64 (0 + wrap64 (-n))], true) := by
  simp [evalOne, evalNeg, evalDo, doNum]
theorem res_neg {ss : List (List Ev)} {cs : List CodeV} {n : Int} (h : evalRes ss cs = (n, true)) (hn : -9223372036854775808 ≤ n ∧ n ≤ 9223372036854775807) : evalRes ss (cs ++ [⟨9, 0, ⟨#[]⟩, 0, 0⟩, ⟨9, 0, ⟨#[]⟩, 0, 0⟩]) = (n, true) := by
  have h1 := run_of_res h
  refine res_of_run ?_
  unfold evalRun at h1 ⊢
  rw [List.foldl_append, h1, List.foldl_cons, List.foldl_cons, neg_one, neg_one, List.foldl_nil]
  have : wrap64 (0 + wrap64 (-wrap64 (0 + wrap64 (-n)))) = n := by simp only [wrap64]; omega
  rw [this]
theorem res_mul {ss : List (List Ev)} {cs : List CodeV} {n k : Int} (h : evalRes ss cs = (n, true)) (hk : 1 ≤ k ∧ k ≤ 1000) : ∃ x, evalRes ss (cs ++ [⟨6, k, ⟨#[]⟩, 0, 0⟩, ⟨3, 0, ⟨#[]⟩, 0, 0⟩, ⟨6, k, ⟨#[]⟩, 0, 0⟩, ⟨4, 0, ⟨#[]⟩, 0, 0⟩]) = (x, true) ∧ (-1125899906842624 ≤ n ∧ n ≤ 1125899906842624 → x = n) := by
  have h1 := run_of_res h
  refine ⟨wrap64 ((wrap64 (n * k)).tdiv k), res_of_run ?_, fun hn => ?_⟩
  · unfold evalRun at h1 ⊢
    rw [List.foldl_append, h1]
    have k0 : k ≠ 0 := by omega
    simp [evalOne, evalDo, doNum, k0]
  · have b1 : n * k ≤ 1125899906842624 * 1000 := by
      rcases Int.le_total 0 n with h | h
      · exact Int.mul_le_mul hn.2 hk.2 (by omega) (by omega)
      · have : n * k ≤ 0 := Int.mul_nonpos_of_nonpos_of_nonneg h (by omega)
        omega
    have b2 : -(1125899906842624 * 1000) ≤ n * k := by
      rcases Int.le_total 0 n with h | h
      · have : 0 ≤ n * k := Int.mul_nonneg h (by omega)
        omega
      · have : (-n) * k ≤ 1125899906842624 * 1000 := Int.mul_le_mul (by omega) hk.2 (by omega) (by omega)
        rw [Int.neg_mul] at this
        omega
    rw [IntWalk.wrap64_in (n * k) (by omega), Int.mul_tdiv_cancel _ (by omega), IntWalk.wrap64_in n (by omega)]

/-- All numbers are numbers of 64 bits. -/
abbrev R64 (x : Int) : Prop := (Lit.int .i64 x).wf = true
theorem wf_tmod (a b : Int) (ha : R64 a) : R64 (a.tmod b) := by
  have h := bounds_i64 ha
  have h1 := Int.natAbs_tmod a b
  have h2 := Nat.mod_le a.natAbs b.natAbs
  have h3 : 0 ≤ a → 0 ≤ a.tmod b := fun h => Int.tmod_nonneg b h
  have h4 : a ≤ 0 → a.tmod b ≤ 0 := fun h => by
    have := Int.tmod_nonneg b (show 0 ≤ -a by omega)
    rw [Int.neg_tmod] at this
    omega
  refine WalkArith.wf_i64 ?_
  omega
theorem do_wf (op a b : Int) (ha : R64 a) : R64 (doNum op a b).1 := by
  unfold doNum
  split
  · exact wrap64_wf _
  split
  · exact wrap64_wf _
  split
  · exact wrap64_wf _
  split
  · split
    · decide
    · exact wrap64_wf _
  split
  · split
    · decide
    · exact wf_tmod _ _ ha
  · decide
def EvWf (e : Ev) : Prop := R64 e.a ∧ R64 e.b ∧ R64 e.c ∧ R64 e.d
theorem last_wf (l : List Int) (h : ∀ x ∈ l, R64 x) : R64 (l.getLast?.getD 0) := by
  rcases List.eq_nil_or_concat l with rfl | ⟨q, x, rfl⟩
  · decide
  · rw [List.concat_eq_append, List.getLast?_concat]
    exact h x (by simp)
theorem evalDo_wf (op : Int) (s : List Int × Bool) (h : ∀ x ∈ s.1, R64 x) : ∀ x ∈ (evalDo op s).1, R64 x := by
  intro x hx
  simp only [evalDo, List.mem_append, List.mem_singleton] at hx
  rcases hx with hx | rfl
  · exact h x (List.dropLast_subset _ (List.dropLast_subset _ hx))
  · exact do_wf _ _ _ (last_wf _ fun y hy => h y (List.dropLast_subset _ hy))
theorem evalNeg_wf (s : List Int × Bool) (h : ∀ x ∈ s.1, R64 x) : ∀ x ∈ (evalNeg s).1, R64 x := by
  intro x hx
  unfold evalNeg at hx
  split at hx
  · simp at hx; subst hx; decide
  · simp only [List.mem_append, List.mem_cons, List.not_mem_nil, or_false] at hx
    rcases hx with hx | rfl | rfl
    · exact h x (List.dropLast_subset _ hx)
    · decide
    · exact last_wf _ h
theorem num_wf {e : Ev} (h : EvWf e) (f : Int) : R64 (e.num f) := by
  unfold Ev.num
  split
  · exact h.1
  split
  · exact h.2.1
  split
  · exact h.2.2.1
  split
  · exact h.2.2.2
  · decide
theorem lastOf_wf {ss : List (List Ev)} (h : ∀ s ∈ ss, ∀ e ∈ s, EvWf e) (at_ : Int) : EvWf (lastOf ss at_) := by
  have h0 : EvWf Ev.zero := ⟨by decide, by decide, by decide, by decide⟩
  unfold lastOf
  have : ∀ e ∈ setOf ss at_, EvWf e := by
    unfold setOf
    split
    · rw [List.getD_eq_getElem?_getD]
      rcases Nat.lt_or_ge at_.toNat ss.length with h1 | h1
      · rw [List.getElem?_eq_getElem h1]
        exact h _ (List.getElem_mem h1)
      · rw [List.getElem?_eq_none h1]
        intro e he; cases he
    · intro e he; cases he
  generalize setOf ss at_ = l at *
  rcases List.eq_nil_or_concat l with rfl | ⟨q, x, rfl⟩
  · exact h0
  · rw [List.concat_eq_append] at *
    rw [List.getLastD_eq_getLast?, List.getLast?_concat]
    exact this x (by simp)
theorem evalOne_wf {ss : List (List Ev)} (hs : ∀ s ∈ ss, ∀ e ∈ s, EvWf e) (hl : ∀ s ∈ ss, s.length ≤ 1000000) (c : CodeV) (hc : R64 c.n) (s : List Int × Bool) (h : ∀ x ∈ s.1, R64 x) : ∀ x ∈ (evalOne ss s c).1, R64 x := by
  have add : ∀ y, R64 y → ∀ x ∈ s.1 ++ [y], R64 x := by
    intro y hy x hx
    simp only [List.mem_append, List.mem_singleton] at hx
    rcases hx with hx | rfl
    · exact h x hx
    · exact hy
  have hlen : (setOf ss c.at_).length ≤ 1000000 := by
    unfold setOf
    split
    · rw [List.getD_eq_getElem?_getD]
      rcases Nat.lt_or_ge c.at_.toNat ss.length with h1 | h1
      · rw [List.getElem?_eq_getElem h1]
        exact hl _ (List.getElem_mem h1)
      · rw [List.getElem?_eq_none h1]; simp
    · simp
  unfold evalOne
  split
  · exact add _ hc
  split
  · exact add _ (WalkArith.wf_i64 (by omega))
  split
  · split
    · exact add _ (num_wf (lastOf_wf hs _) _)
    · exact add _ (by decide)
  split
  · exact evalDo_wf _ _ (evalNeg_wf _ h)
  · exact evalDo_wf _ _ h
theorem run_wf {ss : List (List Ev)} (hs : ∀ s ∈ ss, ∀ e ∈ s, EvWf e) (hl : ∀ s ∈ ss, s.length ≤ 1000000) : ∀ (cs : List CodeV) (s : List Int × Bool), (∀ c ∈ cs, R64 c.n) → (∀ x ∈ s.1, R64 x) → ∀ x ∈ (cs.foldl (evalOne ss) s).1, R64 x := by
  intro cs
  induction cs with
  | nil => intro s _ h; exact h
  | cons c cs ih =>
    intro s hc h
    rw [List.foldl_cons]
    exact ih _ (fun c' h' => hc c' (List.mem_cons_of_mem _ h')) (evalOne_wf hs hl c (hc c (List.mem_cons_self ..)) s h)
theorem res_wf {ss : List (List Ev)} {cs : List CodeV} (hs : ∀ s ∈ ss, ∀ e ∈ s, EvWf e) (hl : ∀ s ∈ ss, s.length ≤ 1000000) (hc : ∀ c ∈ cs, R64 c.n) : R64 (evalRes ss cs).1 := by
  unfold evalRes
  split
  · rename_i hr
    have := run_wf hs hl cs ([], true) hc (fun x hx => by cases hx)
    unfold evalRun at hr ⊢
    generalize cs.foldl (evalOne ss) ([], true) = r at *
    obtain ⟨l, b⟩ := r
    match l, hr.2 with
    | [x], _ => exact this x (by simp)
  · decide
theorem evOf_wf (z : Int) (h : R64 z) : EvWf (evOf z) := by
  have hb := bounds_i64 h
  have h1 : R64 (z / 2) := WalkArith.wf_i64 (by omega)
  have h2 : R64 (wrap64 (-z)) := wrap64_wf _
  have h3 : R64 (bits BinOp.and IntKind.i64 z 3) := wf_bits _ _ _ _
  exact ⟨h, h1, h2, h3⟩
theorem setsOf_wf (ns : List (List Int)) (h : ∀ l ∈ ns, ∀ z ∈ l, R64 z) : ∀ s ∈ setsOf ns, ∀ e ∈ s, EvWf e := by
  intro s hs e he
  obtain ⟨l, hl, rfl⟩ := List.mem_map.1 hs
  obtain ⟨z, hz, rfl⟩ := List.mem_map.1 he
  exact evOf_wf z (h l (List.mem_of_mem_take hl) z (List.mem_of_mem_take hz))
theorem codesOf_wf (l : List StepV) (h : ∀ s ∈ l, R64 s.2.2.2) : ∀ c ∈ codesOf l, R64 c.n := by
  intro c hc
  obtain ⟨s, hs, rfl⟩ := List.mem_map.1 hc
  exact h s (List.mem_of_mem_take hs)
end Go.Proofs.Ytjapgmaldfckkaa
