/- Chapter 12: EpochRipe: what the epochs hold while all is told, and rows of refs by appends of rows. -/
import Derived.Test.YtpklpomajioneaaRipes
import Derived.Maps.AppendAt
namespace Go.Proofs.Ytpklpomajioneaa
open Go.RowKit
set_option linter.unusedVariables false
set_option linter.unusedSimpArgs false

theorem refs_one (l : List RefV) : ∀ u ∈ refCells l, u.oneCell' = true := by
  intro u hu
  obtain ⟨c, _, hc⟩ := List.mem_flatMap.1 hu
  simp only [RefV.cells, List.mem_cons, List.not_mem_nil, or_false] at hc
  rcases hc with rfl | rfl <;> rfl
theorem refCells_append2 (a b : List RefV) : refCells (a ++ b) = refCells a ++ refCells b := by simp [refCells]
def kepts (K : Nat) (s : EpS) : EpS := ⟨s.now, s.pin, fun i => if i < K then keptOf s.now (s.lim i) else s.lim i⟩
def tolds (K : Nat) (s : EpS) : Nat → List RefV := fun i => if i < K then toldOf s.now (s.lim i) else []
def lasts (K : Nat) (s : EpS) : EpS := ⟨s.now + 1 + 1, s.pin, fun i => if i < K then [] else (kepts 4 s).lim i⟩
theorem upd_lt {α : Type} (K : Nat) (f g : Nat → α) : upd (fun i => if i < K then f i else g i) K (f K) = fun i => if i < K + 1 then f i else g i := by
  funext i
  unfold upd
  by_cases h : i = K
  · subst h
    rw [if_pos rfl, if_pos (Nat.lt_succ_self _)]
  · rw [if_neg h]
    show (if i < K then f i else g i) = _
    by_cases h2 : i < K
    · rw [if_pos h2, if_pos (by omega)]
    · rw [if_neg h2, if_neg (by omega)]
theorem kepts_zero (s : EpS) : kepts 0 s = s := rfl
theorem kepts_succ (K : Nat) (s : EpS) : ({ kepts K s with lim := upd (kepts K s).lim K (keptOf s.now (s.lim K)) } : EpS) = kepts (K + 1) s := congrArg (EpS.mk s.now s.pin) (upd_lt K (fun i => keptOf s.now (s.lim i)) s.lim)
theorem tolds_succ (K : Nat) (s : EpS) : upd (tolds K s) K (toldOf s.now (s.lim K)) = tolds (K + 1) s := upd_lt K (fun i => toldOf s.now (s.lim i)) fun _ => []
theorem lasts_succ (K : Nat) (s : EpS) : ({ lasts K s with lim := upd (lasts K s).lim K [] } : EpS) = lasts (K + 1) s := congrArg (EpS.mk (s.now + 1 + 1) s.pin) (upd_lt K (fun _ => []) (kepts 4 s).lim)
theorem lasts_again (K : Nat) (s : EpS) : ({ lasts (K + 1) s with lim := upd (lasts (K + 1) s).lim K [] } : EpS) = lasts (K + 1) s := by
  refine congrArg (EpS.mk (s.now + 1 + 1) s.pin) ?_
  funext i
  unfold upd
  by_cases h : i = K
  · subst h
    rw [if_pos rfl]
    show _ = if i < i + 1 then [] else _
    rw [if_pos (Nat.lt_succ_self _)]
  · rw [if_neg h]
    rfl
theorem lasts_zero (s : EpS) : ({ ({ kepts 4 s with now := s.now + 1 } : EpS) with now := s.now + 1 + 1 } : EpS) = lasts 0 s := rfl
theorem kepts_lim {K i : Nat} (h : ¬ i < K) (s : EpS) : (kepts K s).lim i = s.lim i := if_neg h
theorem lasts_lim {K i : Nat} (h : ¬ i < K) (h4 : i < 4) (s : EpS) : (lasts K s).lim i = keptOf s.now (s.lim i) := (if_neg h).trans (if_pos h4)
theorem lasts_lim0 {K i : Nat} (h : i < K) (s : EpS) : (lasts K s).lim i = [] := if_pos h
theorem unpinned_free {s : EpS} (h : s.pin = fun _ => -1) : s.blocked = false := by
  unfold EpS.blocked
  rw [List.any_eq_false]
  intro i _
  rw [h]
  simp
theorem kept_len (now : Nat) (l : List OldV) : (keptOf now l).length ≤ l.length := List.length_filter_le ..
theorem told_len (now : Nat) (l : List OldV) : (toldOf now l).length ≤ l.length := by
  unfold toldOf
  rw [List.length_map]
  exact List.length_filter_le ..
/-- The rows that were told first, from the one at K. -/
structure Got (w : World) (K Z : Nat) (f : Nat → List RefV) (qv : Nat → Value) : Prop where
  gb : w.heap[Z]? = some (.cells ((List.range 4).map qv).toArray 41 (0, 0))
  gr : ∀ i, K ≤ i → i < 4 → w.ownsRow Z 33 2 (qv i) (f i).length (refCells (f i))
  ga : ∀ i j k, i < 4 → j < 4 → i ≠ j → (qv i).ownBlock = some k → (qv j).ownBlock ≠ some k
theorem Got.kept {S : Nat → Prop} {w w' : World} {K Z : Nat} {f : Nat → List RefV} {qv : Nat → Value} (h : Got w K Z f qv) (k : Only S w w') (hP : ¬ S Z) (hS : ∀ i, K ≤ i → i < 4 → ∀ k, (qv i).ownBlock = some k → ¬ S k) : Got w' K Z f qv :=
  ⟨k.block h.gb hP, fun i hK hi => ownsRow_kept (h.gr i hK hi) k (fun j hj hk => hS i hK hi j hk hj), h.ga⟩
theorem Got.step {w w' : World} {K Z lo2 b n : Nat} {f : Nat → List RefV} {qv : Nat → Value} {s : EpS} {lv : Nat → Value} (h : Got w K Z f qv) (he : EpAt w lo2 b n s lv) (ho : Only (EpOwn b lv) w w') : Got w' K Z f qv :=
  h.kept ho (he.not_own h.gb (by decide) (by decide)) (fun i hK hi k hk => by
    obtain ⟨cs, hc⟩ := own_type' (h.gr i hK hi) hk
    exact he.not_own hc (by decide) (by decide))
theorem Got.below {w w' : World} {K Z : Nat} {f : Nat → List RefV} {qv : Nat → Value} (h : Got w K Z f qv) (hb : Below w.heap.size w w') : Got w' K Z f qv := h.kept (Only.of_below (S := fun _ => False) hb) (fun h => h) (fun _ _ _ _ _ h => h)
theorem Got.later {w : World} {K K2 Z : Nat} {f : Nat → List RefV} {qv : Nat → Value} (h : Got w K Z f qv) (hk : K ≤ K2) : Got w K2 Z f qv := ⟨h.gb, fun i hK hi => h.gr i (Nat.le_trans hk hK) hi, h.ga⟩
theorem Got.of_arr {w : World} {Z : Nat} {f : Nat → List RefV} {qv : Nat → Value} (h : Arr4 w Z Z f qv) : Got w 0 Z f qv := ⟨h.pb, fun i _ hi => h.pr i hi, h.pa⟩
/-- The row at K has been appended to. -/
theorem Got.grown {w w' : World} {K Z : Nat} {f : Nat → List RefV} {qv : Nat → Value} (h : Got w K Z f qv) (hK : K < 4) (hgr : w.grownBy w' (qv K).ownBlock) : Got w' (K + 1) Z f qv := by
  have ho : Only (fun k => (qv K).ownBlock = some k) w w' := only_grown (Only.refl _ w) hgr (fun k hk => .inl hk)
  refine (h.later (Nat.le_succ K)).kept ho (fun hk => absurd (own_type (h.gr K (Nat.le_refl _) hK) hk h.gb) (by decide)) (fun i hi h4 k hk hk2 => h.ga K i k hK h4 (by omega) hk2 hk)
theorem Arr4.grown {w w' : World} {lo P K Z : Nat} {fw f : Nat → List RefV} {pv qv : Nat → Value} (h : Arr4 w lo P fw pv) (hg : Got w K Z f qv) (hK : K < 4) (hZ : ∀ i k, i < 4 → (pv i).ownBlock = some k → k < Z) (hgr : w.grownBy w' (qv K).ownBlock) : Arr4 w' lo P fw pv := by
  have ho : Only (fun k => (qv K).ownBlock = some k) w w' := only_grown (Only.refl _ w) hgr (fun k hk => .inl hk)
  refine h.kept ho (fun hk => absurd (own_type (hg.gr K (Nat.le_refl _) hK) hk h.pb) (by decide)) (fun i hi k hk hk2 => ?_)
  have h1 := hZ i k hi hk
  have h2 := own_block (hg.gr K (Nat.le_refl _) hK) hk2
  omega
theorem EpAt.grown {w w' : World} {lo b n K Z : Nat} {s : EpS} {lv : Nat → Value} {f : Nat → List RefV} {qv : Nat → Value} (h : EpAt w lo b n s lv) (hg : Got w K Z f qv) (hK : K < 4) (hgr : w.grownBy w' (qv K).ownBlock) : EpAt w' lo b n s lv := by
  have ho : Only (fun k => (qv K).ownBlock = some k) w w' := only_grown (Only.refl _ w) hgr (fun k hk => .inl hk)
  refine h.kept ho (fun k hk => ?_)
  obtain ⟨cs, hc⟩ := own_type' (hg.gr K (Nat.le_refl _) hK) hk
  exact h.not_own hc (by decide) (by decide)
theorem Got.grown_below {w0 w w' : World} {K Z : Nat} {f : Nat → List RefV} {qv : Nat → Value} (h : Got w K Z f qv) (hK : K < 4) (hgr : w.grownBy w' (qv K).ownBlock) (hb : Below w0.heap.size w0 w) (hZ : w0.heap.size ≤ Z) : Below w0.heap.size w0 w' :=
  bl_only (S := fun k => (qv K).ownBlock = some k) hb (only_grown (Only.refl _ w) hgr (fun k hk => .inl hk)) (fun k hk => Nat.le_trans hZ (own_block (h.gr K (Nat.le_refl _) hK) hk))
theorem step_append_refs {w : World} {ops : Array Oper} {o : Oper} {a : Act} {K : Act → World → Prop} {Q : Exit → Act → World → Prop} {E : Prop} (hgd : o.guard = none) (s x : Operand)
    (ho : o.op = .call { callee := .builtin .append, args := #[s, x], argTypes := #[37, 37] })
    {lo : Nat} {v : Value} {n : Nat} {cs : List RefV} (hown0 : w.ownsRow lo 33 2 v n (refCells cs)) (hs : a.eval s = v) {xv : Value} {m : Nat} {ds : List RefV} (hr : Reads w 2 xv m (refCells ds)) (hx : a.eval x = xv) (hn : n + m ≤ 1000000) (hlo : lo ≤ w.heap.size) (k : Nat) (hk : n + m = k)
    (h : ∀ A c w', w'.ownsRow lo 33 2 (.slice A k c) k (refCells (cs ++ ds)) → w.grownBy w' v.ownBlock → K (a.put o.dst (.slice A k c)) w') :
    if Region.wanted o (yielded ops a.tmps) = true then Oper.wp Try.prog o a w K Q else E := by
  have hw : Region.wanted o (yielded ops a.tmps) = true := by simp [Region.wanted, hgd]
  rw [if_pos hw]
  subst hk
  obtain ⟨i0, hi, hz0, hz1, hz2⟩ := info_parts infoRef
  rcases hr.at_ with ⟨ad, c, rfl, hc⟩ | ⟨rfl, rfl⟩
  · obtain ⟨v', w', hrun, hown, hgr, _, _⟩ := run_append_own_at (P := Try.prog) w lo 37 o.type 33 i0 _ 2 16 Try.underlying37 hi hz0 hz1 hz2 rfl (by decide) v n (refCells cs) hown0 ad m c (refCells ds) hr.len hc hr.one (by simp only [maxLen]; omega) (by omega) hlo
    rw [← refCells_append2] at hown
    obtain ⟨A, c', rfl⟩ := own_form hown
    unfold Oper.wp execOp
    simp only [ho, resolve, invoke, builtin, Sem.run_bind, Sem.run_pure, Result.andThen_ok, List.map_toArray, List.map_cons, List.map_nil, hs, hx, hrun]
    exact h A c' w' hown hgr
  · have hd : ds = [] := by
      have := hr.len
      rw [refCells_length] at this
      exact List.eq_nil_of_length_eq_zero (by omega)
    subst hd
    have hrun := run_append_owned_none (P := Try.prog) (w := w) lo 37 o.type 33 i0 2 Try.underlying37 hi v n (refCells cs) hown0
    obtain ⟨A, c', rfl⟩ := own_form hown0
    unfold Oper.wp
    simp [execOp, ho, resolve, invoke, builtin, hs, hx, hrun, Result.andThen]
    exact h A c' w (by rw [Nat.add_zero, List.append_nil]; exact hown0) ⟨rfl, rfl, rfl, Nat.le_refl _, fun _ _ _ => rfl⟩
theorem ripe_len {w : World} {lo b n : Nat} {s : EpS} {lv : Nat → Value} (h : EpAt w lo b n s lv) {a : Nat} (ha : a < n) (hn : s.now ≤ 1000000) (hl : (s.lim a).length ≤ 500) (T : List RefV) (hT : toldOf s.now (s.lim a) = T) (K : List OldV) (hK : keptOf s.now (s.lim a) = K) (m : Nat) (hm : T.length = m) :
    Calls Try.prog 15 #[.pointer (some ⟨b, 0, none⟩), .int .i64 a] w fun e w' => ∃ A c v, e = .returned (.slice A m c) ∧ w'.ownsRow w.heap.size 33 2 (.slice A m c) m (refCells T) ∧
      EpAt w' lo b n { s with lim := upd s.lim a K } (upd lv a v) ∧ Only (EpOwn b lv) w w' ∧ ∀ k, EpOwn b (upd lv a v) k → EpOwn b lv k := by
  subst hm
  exact ripe_to h ha hn hl T hT K hK
end Go.Proofs.Ytpklpomajioneaa
