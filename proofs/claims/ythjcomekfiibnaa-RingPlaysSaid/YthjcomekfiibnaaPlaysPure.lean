/- The ring beside the document's own: what each tells is the same. No walk in it. -/
import Derived.Test.YthjcomekfiibnaaRef10D
namespace Go.Proofs.Ythjcomekfiibnaa
open Go.RowKit
set_option linter.unusedVariables false

/-- Where nothing is, the place holds 0. -/
def RingZ (ps : List (Int × Bool)) : Prop := ∀ i : Nat, (ps.getD i (0, false)).2 = false → (ps.getD i (0, false)).1 = 0
theorem ringZ_new (n : Nat) : RingZ (List.replicate n (0, false)) := by
  intro i _
  rw [List.getD_eq_getElem?_getD, List.getElem?_replicate]
  split <;> rfl
theorem ringZ_set {ps : List (Int × Bool)} (h : RingZ ps) (k : Nat) (p : Int × Bool) (hp : p.2 = false → p.1 = 0) : RingZ (ps.set k p) := by
  intro i
  rw [List.getD_eq_getElem?_getD, List.getElem?_set]
  by_cases hk : k = i
  · subst hk
    rw [if_pos rfl]
    by_cases hl : k < ps.length
    · rw [if_pos hl]; exact hp
    · rw [if_neg hl]; exact fun _ => rfl
  · rw [if_neg hk, ← List.getD_eq_getElem?_getD]; exact h i
theorem ringGet_out {ps : List (Int × Bool)} {low : Int} {n : Nat} (hn : ps.length = n) (k : Int) (h : ¬ (low ≤ k ∧ k - low < n)) : ringGet ps low k = (0, false) := by
  unfold ringGet
  rw [hn, if_neg h]
theorem ringGet_zero {ps : List (Int × Bool)} {low : Int} (hz : RingZ ps) (k : Int) (h : (ringGet ps low k).2 = false) : (ringGet ps low k).1 = 0 := by
  unfold ringGet at *
  split
  · rw [if_pos (by assumption)] at h; exact hz _ h
  · rfl
theorem plays_get {ps : List (Int × Bool)} {low : Int} {n : Nat} (hn : ps.length = n) (hz : RingZ ps) (k : Int) : refGet (ringTo ps low n) k = ringGet ps low k := by
  rw [ringTo_view]
  exact (view_get (fun k => ringGet_out hn k) (ringGet_zero hz k)).1
theorem plays_has {ps : List (Int × Bool)} {low : Int} {n : Nat} (hn : ps.length = n) (hz : RingZ ps) (k : Int) : refHas (ringTo ps low n) k = (ringGet ps low k).2 := by
  rw [ringTo_view]
  exact (view_get (fun k => ringGet_out hn k) (ringGet_zero hz k)).2
theorem plays_ok {ps : List (Int × Bool)} {low : Int} {n : Nat} (hn : ps.length = n) (hz : RingZ ps) (k : Int) : ringOk ps low k = true ↔ (low ≤ k ∧ k - low < n ∧ refHas (ringTo ps low n) k = false) := by
  rw [plays_has hn hz]
  unfold ringOk ringGet
  rw [hn]
  by_cases h : low ≤ k ∧ k - low < n
  · rw [if_pos h]
    simp [h.1, h.2]
  · rw [if_neg h]
    simp only [Bool.and_eq_true, decide_eq_true_eq]
    constructor
    · rintro ⟨⟨h1, h2⟩, _⟩; exact absurd ⟨h1, h2⟩ h
    · rintro ⟨h1, h2, _⟩; exact absurd ⟨h1, h2⟩ h
theorem plays_put {ps : List (Int × Bool)} {low k : Int} {n : Nat} (hn : ps.length = n) (hz : RingZ ps) (hok : ringOk ps low k = true) (x : Int) : ringTo (ringPut ps k x) low n = refPut (ringTo ps low n) k x := by
  have h := (plays_ok hn hz k).1 hok
  rw [plays_has hn hz] at h
  rw [ringTo_view, ringTo_view, ← view_put h.1 h.2.1 h.2.2]
  congr 1
  funext k'
  exact ringGet_put hok x k'
theorem plays_drop {ps : List (Int × Bool)} {low : Int} {n : Nat} (hn : ps.length = n) (h1 : 0 < n) (hd : ringDrops ps low = true) : ringTo ps low n = (low, (ringGet ps low low).1) :: ringTo (ringDrop ps low) (low + 1) n := by
  have h2 := hd
  simp only [ringDrops, Bool.and_eq_true, decide_eq_true_eq] at h2
  rw [ringTo_view, ringTo_view]
  exact view_drop h1 h2.1 (fun k => by have := ringGet_drop hd k; rw [hn] at this; exact this)
theorem plays_drop_no {ps : List (Int × Bool)} {low : Int} {n : Nat} (hlow : low < 4611686018427387904) (hd : ringDrops ps low = false) : refDrops (ringTo ps low n) low = false := by
  have h2 : (ringGet ps low low).2 = false := by simpa [ringDrops, hlow] using hd
  rw [ringTo_view]
  cases hv : viewTo (ringGet ps low) low n with
  | nil => rfl
  | cons p l =>
    have hm := viewTo_mem (g := ringGet ps low) (low := low) (k := n) (p := p) (by rw [hv]; simp)
    have : p.1 ≠ low := by
      intro he
      rw [he, ] at hm
      rw [hm.2.2] at h2
      cases h2
    simpa [refDrops] using this
end Go.Proofs.Ythjcomekfiibnaa
