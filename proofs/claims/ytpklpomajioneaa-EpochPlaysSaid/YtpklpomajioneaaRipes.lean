/- Chapter 12: EpochRipe: four rows of refs in memory; the plain law. -/
import Derived.Test.YtpklpomajioneaaEachPure
import Derived.Test.YtpklpomajioneaaEach
namespace Go.Proofs.Ytpklpomajioneaa
open Go.RowKit
set_option linter.unusedVariables false
set_option linter.unusedSimpArgs false

/-- An array of four rows of refs. -/
structure Arr4 (w : World) (lo P : Nat) (f : Nat → List RefV) (pv : Nat → Value) : Prop where
  pb : w.heap[P]? = some (.cells ((List.range 4).map pv).toArray 41 (0, 0))
  pr : ∀ i, i < 4 → w.ownsRow lo 33 2 (pv i) (f i).length (refCells (f i))
  pa : ∀ i j k, i < 4 → j < 4 → i ≠ j → (pv i).ownBlock = some k → (pv j).ownBlock ≠ some k
theorem Arr4.kept {S : Nat → Prop} {w w' : World} {lo P : Nat} {f : Nat → List RefV} {pv : Nat → Value} (h : Arr4 w lo P f pv) (k : Only S w w') (hP : ¬ S P) (hS : ∀ i, i < 4 → ∀ k, (pv i).ownBlock = some k → ¬ S k) : Arr4 w' lo P f pv :=
  ⟨k.block h.pb hP, fun i hi => ownsRow_kept (h.pr i hi) k (fun j hj hk => hS i hi j hk hj), h.pa⟩
theorem Arr4.step {w w' : World} {lo P lo2 b n : Nat} {f : Nat → List RefV} {pv : Nat → Value} {s : EpS} {lv : Nat → Value} (h : Arr4 w lo P f pv) (he : EpAt w lo2 b n s lv) (ho : Only (EpOwn b lv) w w') : Arr4 w' lo P f pv :=
  h.kept ho (he.not_own h.pb (by decide) (by decide)) (fun i hi k hk => by
    obtain ⟨cs, hc⟩ := own_type' (h.pr i hi) hk
    exact he.not_own hc (by decide) (by decide))
theorem Arr4.below {w w' : World} {lo P : Nat} {f : Nat → List RefV} {pv : Nat → Value} (h : Arr4 w lo P f pv) (hb : Below w.heap.size w w') : Arr4 w' lo P f pv := h.kept (Only.of_below (S := fun _ => False) hb) (fun h => h) (fun _ _ _ _ h => h)
/-- A row anew: behind a growth of it alone, or a new one. -/
theorem Arr4.put {w1 w2 : World} {lo P : Nat} {f : Nat → List RefV} {pv : Nat → Value} (h : Arr4 w1 lo P f pv) {a : Nat} (ha : a < 4) {l : List RefV} {v : Value} (hown : w2.ownsRow lo 33 2 v l.length (refCells l)) {row : Option Nat} (hrow : row = none ∨ row = (pv a).ownBlock) (hgr : w1.grownBy w2 row) (hv : ∀ k, v.ownBlock = some k → (pv a).ownBlock = some k ∨ ∀ i, i < 4 → (pv i).ownBlock ≠ some k) :
    Arr4 (w2.setCell ⟨P, a, none⟩ v) lo P (upd f a l) (upd pv a v) := by
  have ho1 : Only (fun k => (pv a).ownBlock = some k) w1 w2 := only_grown (Only.refl _ w1) hgr (fun k hk => .inl (by
    rcases hrow with h | h
    · rw [h] at hk; cases hk
    · rw [← h]; exact hk))
  have hpb := ho1.block h.pb (fun he => absurd (own_type (h.pr a ha) he h.pb) (by decide))
  have hs := setCell_same hpb (i := a) v
  rw [range_set] at hs
  have ho2 : Only (fun k => k = P) w2 (w2.setCell ⟨P, a, none⟩ v) := (Only.refl (fun k => k = P) w2).setCell _ _ (.inl rfl)
  refine ⟨hs, fun i hi => ?_, fun i j k hi hj hij hk => ?_⟩
  · by_cases e : i = a
    · subst e
      rw [upd_same, upd_same]
      exact ownsRow_kept hown ho2 (by rintro k rfl hk; exact absurd (own_type hown hk hpb) (by decide))
    · rw [upd_other _ _ e, upd_other _ _ e]
      refine ownsRow_kept (ownsRow_kept (h.pr i hi) ho1 (fun k hk hk2 => h.pa a i k ha hi (fun e2 => e e2.symm) hk hk2)) ho2 ?_
      rintro k rfl hk
      exact absurd (own_type (h.pr i hi) hk h.pb) (by decide)
  · by_cases e : i = a
    · subst e
      rw [upd_same] at hk
      rw [upd_other _ _ (fun e => hij e.symm)]
      rcases hv k hk with h1 | h1
      · exact h.pa i j k hi hj hij h1
      · exact h1 j hj
    · rw [upd_other _ _ e] at hk
      by_cases e2 : j = a
      · subst e2
        rw [upd_same]
        intro hk2
        rcases hv k hk2 with h1 | h1
        · exact h.pa i j k hi hj hij hk h1
        · exact h1 i hi hk
      · rw [upd_other _ _ e2]
        exact h.pa i j k hi hj hij hk
/-- While refs are retired: no one is pinned; the limbos are in order. -/
structure RipeInv (I : Nat) (s : EpS) : Prop where
  pin : s.pin = fun _ => -1
  srt : ∀ a, (s.lim a).Pairwise (fun x y => x.ep ≤ y.ep)
  le : ∀ a, ∀ o ∈ s.lim a, o.ep ≤ s.now
  nw : s.now ≤ I
  ln : ∀ a, (s.lim a).length ≤ I
theorem RipeInv.start : RipeInv 0 EpS.zero := ⟨rfl, fun _ => List.Pairwise.nil, fun a o ho => absurd ho (List.not_mem_nil), Nat.le_refl _, fun _ => Nat.le_refl _⟩
theorem RipeInv.unblocked {I : Nat} {s : EpS} (h : RipeInv I s) : s.blocked = false := by
  unfold EpS.blocked
  rw [List.any_eq_false]
  intro i _
  rw [h.pin]
  simp
/-- A ref more; an advance ahead of it, or none. -/
theorem RipeInv.retire {I : Nat} {s : EpS} (h : RipeInv I s) (d : Nat) (hd : d ≤ 1) (a : Nat) (sl gn : Int) : RipeInv (I + 1) ⟨s.now + d, s.pin, upd s.lim a (s.lim a ++ [⟨sl, gn, ((s.now + d : Nat) : Int)⟩])⟩ := by
  refine ⟨h.pin, fun b => ?_, fun b o ho => ?_, by show s.now + d ≤ I + 1; have := h.nw; omega, fun b => ?_⟩
  · show (upd s.lim a (s.lim a ++ [⟨sl, gn, ((s.now + d : Nat) : Int)⟩]) b).Pairwise _
    by_cases e : b = a
    · subst e
      rw [upd_same, List.pairwise_append]
      refine ⟨h.srt b, List.pairwise_singleton _ _, fun x hx y hy => ?_⟩
      rw [List.mem_singleton] at hy
      subst hy
      have := h.le b x hx
      show x.ep ≤ ((s.now + d : Nat) : Int)
      omega
    · rw [upd_other _ _ e]
      exact h.srt b
  · change o ∈ upd s.lim a (s.lim a ++ [⟨sl, gn, ((s.now + d : Nat) : Int)⟩]) b at ho
    show o.ep ≤ ((s.now + d : Nat) : Int)
    have hold : ∀ c, ∀ o ∈ s.lim c, o.ep ≤ ((s.now + d : Nat) : Int) := fun c o ho => by have := h.le c o ho; omega
    by_cases e : b = a
    · subst e
      rw [upd_same, List.mem_append, List.mem_singleton] at ho
      rcases ho with ho | rfl
      · exact hold b o ho
      · exact Int.le_refl _
    · rw [upd_other _ _ e] at ho
      exact hold b o ho
  · show (upd s.lim a (s.lim a ++ [⟨sl, gn, ((s.now + d : Nat) : Int)⟩]) b).length ≤ I + 1
    by_cases e : b = a
    · subst e
      rw [upd_same, List.length_append]
      exact Nat.succ_le_succ (h.ln b)
    · rw [upd_other _ _ e]
      exact Nat.le_succ_of_le (h.ln b)
/-- What is told first, and two advances later, are all. -/
theorem ripe_all (now : Nat) (L : List OldV) (hs : L.Pairwise (fun x y => x.ep ≤ y.ep)) (hl : ∀ o ∈ L, o.ep ≤ now) :
    toldOf now L ++ toldOf ((now + 1 + 1 : Nat) : Int) (keptOf now L) = L.map OldV.ref ∧ keptOf ((now + 1 + 1 : Nat) : Int) (keptOf now L) = [] := by
  obtain ⟨m, h1, h2, h3, _, _⟩ := split_sorted now L hs
  have hr : ∀ o ∈ keptOf now L, ripeB ((now + 1 + 1 : Nat) : Int) o = true := fun o ho => by
    rw [h3] at ho
    have := hl o (List.mem_of_mem_drop ho)
    simp [ripeB]
    omega
  constructor
  · unfold toldOf at h2 ⊢
    rw [h2, List.filter_eq_self.2 hr, h3, ← List.map_append, List.take_append_drop]
  · unfold keptOf at hr ⊢
    exact List.filter_eq_nil_iff.2 (fun o ho => by rw [hr o ho]; decide)
end Go.Proofs.Ytpklpomajioneaa
