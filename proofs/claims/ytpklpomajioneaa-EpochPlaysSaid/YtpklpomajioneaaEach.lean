/- Chapter 12: EpochEach. -/
import Derived.Test.YtpklpomajioneaaEachPure
import Derived.Test.YtpklpomajioneaaSafe
namespace Go.Proofs.Ytpklpomajioneaa
open Go.RowKit
set_option linter.unusedVariables false
set_option linter.unusedSimpArgs false

def natCells (l : List Nat) : List Value := l.map fun i => Value.int .i64 (i : Nat)
def atCells (at_ : Nat → Nat) : List Value := (List.range 60).map fun i => Value.int .i64 (at_ i)
theorem atCells_at (f : Nat → Nat) {i : Nat} (hi : i < 60) : (atCells f)[i]? = some (.int .i64 (f i)) := by simp [atCells, hi]
theorem atCells_set (f : Nat → Nat) (a m : Nat) : (atCells f).set a (.int .i64 m) = atCells (upd f a m) := by
  unfold atCells
  rw [range_set]
  have : (upd (fun i => Value.int .i64 (f i)) a (.int .i64 m)) = (fun i => Value.int .i64 (((upd f a m) i : Nat) : Int)) := by
    funext i
    unfold upd
    split <;> rfl
  rw [this]
theorem rngCells_at (pv : Nat → Value) {n i : Nat} (hi : i < n) : ((List.range n).map pv)[i]? = some (pv i) := by simp [hi]
structure EachW (w wr : World) (b P A T n : Nat) (s : EpS) (lv : Nat → Value) (put : Nat → List Nat) (pv : Nat → Value) (at_ told : Nat → Nat) : Prop where
  ep : EpAt wr w.heap.size b n s lv
  pb : wr.heap[P]? = some (.cells ((List.range 5).map pv).toArray 51 (0, 0))
  pr : ∀ i, i < 5 → wr.ownsRow w.heap.size 3 1 (pv i) (put i).length (natCells (put i))
  pa : ∀ i j k, i < 5 → j < 5 → i ≠ j → (pv i).ownBlock = some k → (pv j).ownBlock ≠ some k
  ab : wr.heap[A]? = some (.cells (atCells at_).toArray 52 (0, 0))
  tb : wr.heap[T]? = some (.cells (pnCells told).toArray 28 (0, 0))
  pl : w.heap.size ≤ P
  al : w.heap.size ≤ A
  tl : w.heap.size ≤ T
  bel : Below w.heap.size w wr
theorem EachW.step {w wr w2 : World} {b P A T n : Nat} {s s' : EpS} {lv lv' : Nat → Value} {put : Nat → List Nat} {pv : Nat → Value} {at_ told : Nat → Nat} (h : EachW w wr b P A T n s lv put pv at_ told) (he : EpAt w2 w.heap.size b n s' lv') (ho : Only (EpOwn b lv) wr w2) : EachW w w2 b P A T n s' lv' put pv at_ told :=
  ⟨he, ho.block h.pb (h.ep.not_own h.pb (by decide) (by decide)), fun i hi => ownsRow_kept (h.pr i hi) ho (fun k hk hk2 => by
    obtain ⟨cs, hc⟩ := own_type' (h.pr i hi) hk2
    exact h.ep.not_own hc (by decide) (by decide) hk), h.pa, ho.block h.ab (h.ep.not_own h.ab (by decide) (by decide)), ho.block h.tb (h.ep.not_own h.tb (by decide) (by decide)), h.pl, h.al, h.tl, bl_only h.bel ho (fun k hk => h.ep.own_lo hk)⟩
theorem EachW.below {w wr w2 : World} {b P A T n : Nat} {s : EpS} {lv : Nat → Value} {put : Nat → List Nat} {pv : Nat → Value} {at_ told : Nat → Nat} (h : EachW w wr b P A T n s lv put pv at_ told) (hb : Below wr.heap.size wr w2) : EachW w w2 b P A T n s lv put pv at_ told :=
  h.step (h.ep.below0 hb) (Only.of_below hb)
theorem type_ne {w : World} {j k : Nat} {c d : Array Value} {t u : TypeId} {f g : Nat × Nat} (h : w.heap[j]? = some (.cells c t f)) (h2 : w.heap[k]? = some (.cells d u g)) (hne : t ≠ u) : j ≠ k := by
  rintro rfl
  rw [h] at h2
  injection h2 with h2
  injection h2 with _ h3 _
  exact hne h3
theorem EachW.setTold {w wr : World} {b P A T n : Nat} {s : EpS} {lv : Nat → Value} {put : Nat → List Nat} {pv : Nat → Value} {at_ told : Nat → Nat} (h : EachW w wr b P A T n s lv put pv at_ told) (a m : Nat) : EachW w (wr.setCell ⟨T, a, none⟩ (.int .i64 m)) b P A T n s lv put pv at_ (upd told a m) := by
  have ho : Only (fun k => k = T) wr (wr.setCell ⟨T, a, none⟩ (.int .i64 m)) := (Only.refl (fun k => k = T) wr).setCell _ _ (.inl rfl)
  have hs := setCell_same h.tb (i := a) (.int .i64 m)
  rw [pnCells_set] at hs
  exact ⟨h.ep.kept ho (by rintro k rfl; exact h.ep.not_own h.tb (by decide) (by decide)), ho.block h.pb (type_ne h.pb h.tb (by decide)), fun i hi => ownsRow_kept (h.pr i hi) ho (by rintro k rfl hk; exact absurd (own_type (h.pr i hi) hk h.tb) (by decide)), h.pa, ho.block h.ab (type_ne h.ab h.tb (by decide)), hs, h.pl, h.al, h.tl, bl_only h.bel ho (by rintro k rfl; exact h.tl)⟩
theorem EachW.setAt {w wr : World} {b P A T n : Nat} {s : EpS} {lv : Nat → Value} {put : Nat → List Nat} {pv : Nat → Value} {at_ told : Nat → Nat} (h : EachW w wr b P A T n s lv put pv at_ told) (a m : Nat) : EachW w (wr.setCell ⟨A, a, none⟩ (.int .i64 m)) b P A T n s lv put pv (upd at_ a m) told := by
  have ho : Only (fun k => k = A) wr (wr.setCell ⟨A, a, none⟩ (.int .i64 m)) := (Only.refl (fun k => k = A) wr).setCell _ _ (.inl rfl)
  have hs := setCell_same h.ab (i := a) (.int .i64 m)
  rw [atCells_set] at hs
  exact ⟨h.ep.kept ho (by rintro k rfl; exact h.ep.not_own h.ab (by decide) (by decide)), ho.block h.pb (type_ne h.pb h.ab (by decide)), fun i hi => ownsRow_kept (h.pr i hi) ho (by rintro k rfl hk; exact absurd (own_type (h.pr i hi) hk h.ab) (by decide)), h.pa, hs, ho.block h.tb (type_ne h.tb h.ab (by decide)), h.pl, h.al, h.tl, bl_only h.bel ho (by rintro k rfl; exact h.al)⟩
theorem EachW.push {w wr w1 w2 : World} {b P A T n : Nat} {s : EpS} {lv : Nat → Value} {put : Nat → List Nat} {pv : Nat → Value} {at_ told : Nat → Nat} (h0 : EachW w wr b P A T n s lv put pv at_ told) (hb : Below wr.heap.size wr w1) {a : Nat} (ha : a < 5) {x : Nat} {v : Value} (hown : w2.ownsRow w.heap.size 3 1 v ((put a).length + 1) (natCells (put a) ++ [.int .i64 x])) (hgr : w1.grownBy w2 (pv a).ownBlock) (hv : ∀ k, v.ownBlock = some k → (pv a).ownBlock = some k ∨ w1.heap.size ≤ k) :
    EachW w (w2.setCell ⟨P, a, none⟩ v) b P A T n s lv (upd put a (put a ++ [x])) (upd pv a v) at_ told := by
  have h := h0.below hb
  have ho1 : Only (fun k => (pv a).ownBlock = some k) w1 w2 := only_grown (Only.refl _ w1) hgr (fun k hk => .inl hk)
  have nt : ∀ {k : Nat} {cs : Array Value} {t : TypeId} {fr : Nat × Nat}, w1.heap[k]? = some (.cells cs t fr) → t ≠ 3 → ¬ ((pv a).ownBlock = some k) := fun hk hne he => hne (own_type (h.pr a ha) he hk)
  have hpb := ho1.block h.pb (nt h.pb (by decide))
  have hab := ho1.block h.ab (nt h.ab (by decide))
  have htb := ho1.block h.tb (nt h.tb (by decide))
  have hs := setCell_same hpb (i := a) v
  rw [range_set] at hs
  have ho2 : Only (fun k => k = P) w2 (w2.setCell ⟨P, a, none⟩ v) := (Only.refl (fun k => k = P) w2).setCell _ _ (.inl rfl)
  have hep1 := h.ep.kept ho1 (fun k hk => by
    obtain ⟨cs, hc⟩ := own_type' (h.pr a ha) hk
    exact h.ep.not_own hc (by decide) (by decide))
  have hep2 := hep1.kept ho2 (by rintro k rfl; exact hep1.not_own hpb (by decide) (by decide))
  refine ⟨hep2, hs, fun i hi => ?_, fun i j k hi hj hij hk => ?_, ho2.block hab (type_ne hab hpb (by decide)), ho2.block htb (type_ne htb hpb (by decide)), h.pl, h.al, h.tl, bl_only (bl_only h.bel ho1 (fun k hk => own_block (h.pr a ha) hk)) ho2 (by rintro k rfl; exact h.pl)⟩
  · by_cases e : i = a
    · subst e
      rw [upd_same, upd_same, List.length_append, List.length_singleton, show natCells (put i ++ [x]) = natCells (put i) ++ [.int .i64 x] by simp [natCells]]
      exact ownsRow_kept hown ho2 (by rintro k rfl hk; exact absurd (own_type hown hk hpb) (by decide))
    · rw [upd_other _ _ e, upd_other _ _ e]
      refine ownsRow_kept (ownsRow_kept (h.pr i hi) ho1 (fun k hk hk2 => h.pa a i k ha hi (fun e2 => e e2.symm) hk hk2)) ho2 ?_
      rintro k rfl hk
      exact absurd (own_type (h.pr i hi) hk h.pb) (by decide)
  · by_cases e : i = a
    · subst e
      rw [upd_same] at hk
      rw [upd_other _ _ (fun e => hij e.symm)]
      rcases hv k hk with h1 | h1
      · exact h.pa i j k hi hj hij h1
      · intro hk2
        have := Go.Proofs.Ytpklpomajioneaa.own_lt (h.pr j hj) hk2
        omega
    · rw [upd_other _ _ e] at hk
      by_cases e2 : j = a
      · subst e2
        rw [upd_same]
        intro hk2
        rcases hv k hk2 with h1 | h1
        · exact h.pa i j k hi hj hij hk h1
        · have := Go.Proofs.Ytpklpomajioneaa.own_lt (h.pr i hi) hk
          omega
      · rw [upd_other _ _ e2]
        exact h.pa i j k hi hj hij hk
end Go.Proofs.Ytpklpomajioneaa
