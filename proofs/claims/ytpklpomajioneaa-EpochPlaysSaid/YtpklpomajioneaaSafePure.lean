/- Chapter 12: EpochSafe's plain law. -/
import Derived.Test.YtpklpomajioneaaEpLaw
namespace Go.Proofs.Ytpklpomajioneaa
open Go.RowKit
set_option linter.unusedVariables false
set_option linter.unusedSimpArgs false

/-- What was held: its slot, when it came, who was pinned then. -/
structure HV where
  slot : Nat
  ep : Nat
  pins : Nat → Nat
structure SafeInv (n I : Nat) (s : EpS) (H : List HV) (pn : Nat → Nat) : Prop where
  p1 : ∀ p, p < n → s.pin p ≠ -1 → (s.now : Int) ≤ s.pin p + 1 ∧ s.pin p ≤ s.now
  p2 : ∀ p, p < n → (pn p % 2 = 1 ↔ s.pin p ≠ -1)
  p3 : ∀ h ∈ H, ∀ p, p < n → 0 < h.pins p → h.pins p = pn p → s.pin p ≠ -1 ∧ s.pin p ≤ h.ep
  p4 : ∀ a, ∀ o ∈ s.lim a, ∃ h ∈ H, (h.slot : Int) = o.slot ∧ (h.ep : Int) = o.ep ∧ o.gen = 0
  p5 : ∀ h ∈ H, ∀ h' ∈ H, h.slot = h'.slot → h.ep = h'.ep
  p6 : ∀ h ∈ H, h.slot < I
  p8 : ∀ h ∈ H, ∀ p, p < n → h.pins p ≤ pn p
  sm : ∀ p, pn p ≤ I
  lm : ∀ a, (s.lim a).length ≤ I
  nw : s.now ≤ I
  hl : H.length ≤ I
theorem SafeInv.later {n I : Nat} {s : EpS} {H : List HV} {pn : Nat → Nat} (h : SafeInv n I s H pn) : SafeInv n (I + 1) s H pn :=
  { h with p6 := fun x hx => Nat.lt_succ_of_lt (h.p6 x hx), sm := fun p => Nat.le_succ_of_le (h.sm p), lm := fun a => Nat.le_succ_of_le (h.lm a), nw := Nat.le_succ_of_le h.nw, hl := Nat.le_succ_of_le h.hl }
theorem SafeInv.start (n : Nat) : SafeInv n 0 EpS.zero [] (fun _ => 0) := by
  exact ⟨fun p _ h => absurd rfl h, fun p _ => ⟨fun h => by simp at h, fun h => absurd rfl h⟩, fun x hx => absurd hx (List.not_mem_nil), fun a o ho => absurd ho (List.not_mem_nil), fun x hx => absurd hx (List.not_mem_nil), fun x hx => absurd hx (List.not_mem_nil), fun x hx => absurd hx (List.not_mem_nil), fun _ => Nat.le_refl _, fun _ => Nat.le_refl _, Nat.le_refl _, Nat.le_refl _⟩
theorem SafeInv.pin {n I : Nat} {s : EpS} {H : List HV} {pn : Nat → Nat} (h : SafeInv n I s H pn) {a : Nat} (ha : a < n) (hp : s.pin a = -1) :
    SafeInv n (I + 1) { s with pin := upd s.pin a s.now } H (upd pn a (pn a + 1)) := by
  have h2 := h.p2 a ha
  rw [hp] at h2
  refine ⟨fun p hpn hne => ?_, fun p hpn => ?_, fun x hx p hpn h3 h4 => ?_, h.p4, h.p5, fun x hx => Nat.lt_succ_of_lt (h.p6 x hx), fun x hx p hpn => ?_, fun p => ?_, fun b => Nat.le_succ_of_le (h.lm b), Nat.le_succ_of_le h.nw, Nat.le_succ_of_le h.hl⟩
  · by_cases e : p = a
    · subst e
      show (s.now : Int) ≤ upd s.pin p s.now p + 1 ∧ upd s.pin p s.now p ≤ s.now
      rw [upd_same]
      omega
    · change upd s.pin a s.now p ≠ -1 at hne
      show (s.now : Int) ≤ upd s.pin a s.now p + 1 ∧ upd s.pin a s.now p ≤ s.now
      rw [upd_other _ _ e] at hne ⊢
      exact h.p1 p hpn hne
  · by_cases e : p = a
    · subst e
      show upd pn p (pn p + 1) p % 2 = 1 ↔ upd s.pin p s.now p ≠ -1
      rw [upd_same, upd_same]
      constructor
      · intro _; omega
      · intro _
        have : ¬ (pn p % 2 = 1) := fun hc => h2.1 hc rfl
        omega
    · show upd pn a (pn a + 1) p % 2 = 1 ↔ upd s.pin a s.now p ≠ -1
      rw [upd_other _ _ e, upd_other _ _ e]
      exact h.p2 p hpn
  · by_cases e : p = a
    · subst e
      rw [upd_same] at h4
      have := h.p8 x hx p hpn
      omega
    · rw [upd_other _ _ e] at h4
      show upd s.pin a s.now p ≠ -1 ∧ upd s.pin a s.now p ≤ x.ep
      rw [upd_other _ _ e]
      exact h.p3 x hx p hpn h3 h4
  · by_cases e : p = a
    · subst e
      rw [upd_same]
      exact Nat.le_succ_of_le (h.p8 x hx p hpn)
    · rw [upd_other _ _ e]
      exact h.p8 x hx p hpn
  · by_cases e : p = a
    · subst e
      rw [upd_same]
      exact Nat.succ_le_succ (h.sm p)
    · rw [upd_other _ _ e]
      exact Nat.le_succ_of_le (h.sm p)
theorem SafeInv.unpin {n I : Nat} {s : EpS} {H : List HV} {pn : Nat → Nat} (h : SafeInv n I s H pn) {a : Nat} (ha : a < n) (hp : s.pin a ≠ -1) :
    SafeInv n (I + 1) { s with pin := upd s.pin a (-1) } H (upd pn a (pn a + 1)) := by
  have h2 := (h.p2 a ha).2 hp
  refine ⟨fun p hpn hne => ?_, fun p hpn => ?_, fun x hx p hpn h3 h4 => ?_, h.p4, h.p5, fun x hx => Nat.lt_succ_of_lt (h.p6 x hx), fun x hx p hpn => ?_, fun p => ?_, fun b => Nat.le_succ_of_le (h.lm b), Nat.le_succ_of_le h.nw, Nat.le_succ_of_le h.hl⟩
  · change upd s.pin a (-1) p ≠ -1 at hne
    show (s.now : Int) ≤ upd s.pin a (-1) p + 1 ∧ upd s.pin a (-1) p ≤ s.now
    by_cases e : p = a
    · subst e
      rw [upd_same] at hne
      exact absurd rfl hne
    · rw [upd_other _ _ e] at hne ⊢
      exact h.p1 p hpn hne
  · show upd pn a (pn a + 1) p % 2 = 1 ↔ upd s.pin a (-1) p ≠ -1
    by_cases e : p = a
    · subst e
      rw [upd_same, upd_same]
      constructor
      · intro _; omega
      · intro hc; exact absurd rfl hc
    · rw [upd_other _ _ e, upd_other _ _ e]
      exact h.p2 p hpn
  · show upd s.pin a (-1) p ≠ -1 ∧ upd s.pin a (-1) p ≤ x.ep
    by_cases e : p = a
    · subst e
      rw [upd_same] at h4
      have := h.p8 x hx p hpn
      omega
    · rw [upd_other _ _ e] at h4 ⊢
      exact h.p3 x hx p hpn h3 h4
  · by_cases e : p = a
    · subst e
      rw [upd_same]
      exact Nat.le_succ_of_le (h.p8 x hx p hpn)
    · rw [upd_other _ _ e]
      exact h.p8 x hx p hpn
  · by_cases e : p = a
    · subst e
      rw [upd_same]
      exact Nat.succ_le_succ (h.sm p)
    · rw [upd_other _ _ e]
      exact Nat.le_succ_of_le (h.sm p)
/-- Who is pinned, as often as they had been. -/
def oddOf (pn : Nat → Nat) (K : Nat) : Nat → Nat := fun p => if p < K ∧ pn p % 2 = 1 then pn p else 0
theorem SafeInv.retire {n I : Nat} {s : EpS} {H : List HV} {pn : Nat → Nat} (h : SafeInv n I s H pn) (a : Nat) :
    SafeInv n (I + 1) { s with lim := upd s.lim a (s.lim a ++ [⟨(I : Int), 0, s.now⟩]) } (H ++ [⟨I, s.now, oddOf pn n⟩]) pn := by
  refine ⟨h.p1, h.p2, fun x hx p hpn h3 h4 => ?_, fun b o ho => ?_, fun x hx y hy hxy => ?_, fun x hx => ?_, fun x hx p hpn => ?_, fun p => Nat.le_succ_of_le (h.sm p), fun b => ?_, Nat.le_succ_of_le h.nw, ?_⟩
  · rw [List.mem_append, List.mem_singleton] at hx
    rcases hx with hx | rfl
    · exact h.p3 x hx p hpn h3 h4
    · change 0 < oddOf pn n p at h3
      unfold oddOf at h3
      split at h3
      · rename_i hc
        have hne := (h.p2 p hpn).1 hc.2
        exact ⟨hne, (h.p1 p hpn hne).2⟩
      · omega
  · have hold : ∀ o ∈ s.lim b, ∃ x ∈ H ++ [⟨I, s.now, oddOf pn n⟩], (x.slot : Int) = o.slot ∧ (x.ep : Int) = o.ep ∧ o.gen = 0 := fun o ho => by
      obtain ⟨x, hx, hr⟩ := h.p4 b o ho
      exact ⟨x, List.mem_append_left _ hx, hr⟩
    change o ∈ upd s.lim a (s.lim a ++ [⟨(I : Int), 0, s.now⟩]) b at ho
    by_cases e : b = a
    · subst e
      rw [upd_same, List.mem_append, List.mem_singleton] at ho
      rcases ho with ho | rfl
      · exact hold o ho
      · exact ⟨_, List.mem_append_right _ (List.mem_singleton.2 rfl), rfl, rfl, rfl⟩
    · rw [upd_other _ _ e] at ho
      exact hold o ho
  · rw [List.mem_append, List.mem_singleton] at hx hy
    rcases hx with hx | rfl <;> rcases hy with hy | rfl
    · exact h.p5 x hx y hy hxy
    · have := h.p6 x hx
      change x.slot = I at hxy
      omega
    · have := h.p6 y hy
      change I = y.slot at hxy
      omega
    · rfl
  · rw [List.mem_append, List.mem_singleton] at hx
    rcases hx with hx | rfl
    · exact Nat.lt_succ_of_lt (h.p6 x hx)
    · exact Nat.lt_succ_self _
  · rw [List.mem_append, List.mem_singleton] at hx
    rcases hx with hx | rfl
    · exact h.p8 x hx p hpn
    · show oddOf pn n p ≤ pn p
      unfold oddOf
      split <;> omega
  · show (upd s.lim a (s.lim a ++ [⟨(I : Int), 0, s.now⟩]) b).length ≤ I + 1
    by_cases e : b = a
    · subst e
      rw [upd_same, List.length_append]
      exact Nat.succ_le_succ (h.lm b)
    · rw [upd_other _ _ e]
      exact Nat.le_succ_of_le (h.lm b)
  · rw [List.length_append]
    exact Nat.succ_le_succ h.hl
theorem SafeInv.ripe {n I : Nat} {s : EpS} {H : List HV} {pn : Nat → Nat} (h : SafeInv n I s H pn) (a : Nat) (now : Int) :
    SafeInv n I { s with lim := upd s.lim a (keptOf now (s.lim a)) } H pn := by
  refine ⟨h.p1, h.p2, h.p3, fun b o ho => ?_, h.p5, h.p6, h.p8, h.sm, fun b => ?_, h.nw, h.hl⟩
  · change o ∈ upd s.lim a (keptOf now (s.lim a)) b at ho
    by_cases e : b = a
    · subst e
      rw [upd_same] at ho
      exact h.p4 b o (List.mem_filter.1 ho).1
    · rw [upd_other _ _ e] at ho
      exact h.p4 b o ho
  · show (upd s.lim a (keptOf now (s.lim a)) b).length ≤ I
    by_cases e : b = a
    · subst e
      rw [upd_same]
      exact Nat.le_trans (List.length_filter_le _ _) (h.lm b)
    · rw [upd_other _ _ e]
      exact h.lm b
theorem SafeInv.advance {n I : Nat} {s : EpS} {H : List HV} {pn : Nat → Nat} (h : SafeInv n I s H pn) (hn : n ≤ 16) (hb : s.blocked = false) :
    SafeInv n (I + 1) { s with now := s.now + 1 } H pn := by
  refine ⟨fun p hpn hne => ?_, h.p2, h.p3, h.p4, h.p5, fun x hx => Nat.lt_succ_of_lt (h.p6 x hx), h.p8, fun p => Nat.le_succ_of_le (h.sm p), fun a => Nat.le_succ_of_le (h.lm a), Nat.succ_le_succ h.nw, Nat.le_succ_of_le h.hl⟩
  unfold EpS.blocked at hb
  rw [List.any_eq_false] at hb
  have h1 := hb p (by simp; omega)
  have hne' : s.pin p ≠ -1 := hne
  have h2 : s.pin p = s.now := by simpa [hne'] using h1
  show ((s.now + 1 : Nat) : Int) ≤ s.pin p + 1 ∧ s.pin p ≤ ((s.now + 1 : Nat) : Int)
  omega
/-- What is told was not retired while one was pinned who is so still. -/
theorem SafeInv.safe {n I : Nat} {s : EpS} {H : List HV} {pn : Nat → Nat} (h : SafeInv n I s H pn) {a : Nat} {r : RefV} (hr : r ∈ toldOf s.now (s.lim a)) {x : HV} (hx : x ∈ H) (he : (x.slot : Int) = r.slot) {p : Nat} (hp : p < n) : ¬ (0 < x.pins p ∧ x.pins p = pn p) := by
  rintro ⟨h1, h2⟩
  obtain ⟨o, ho, rfl⟩ := List.mem_map.1 hr
  obtain ⟨hol, hob⟩ := List.mem_filter.1 ho
  obtain ⟨y, hy, hs, hep, _⟩ := h.p4 a o hol
  have hxy : x.slot = y.slot := by
    have : (x.slot : Int) = y.slot := he.trans hs.symm
    omega
  have h3 := h.p5 x hx y hy hxy
  obtain ⟨h4, h5⟩ := h.p3 x hx p hp h1 h2
  have h6 := (h.p1 p hp h4).1
  have h7 : o.ep ≤ (s.now : Int) - 2 := by simpa [ripeB] using hob
  omega
end Go.Proofs.Ytpklpomajioneaa
