/- What the law RingKeeps needs of lists and numbers: a ring that is filled from one place on, and emptied from the first one on. No program in it. -/
import Derived.Test.YthjcomekfiibnaaRingPure
namespace Go.Proofs.Ythjcomekfiibnaa
set_option linter.unusedVariables false

/-- I things have been put, from place f on, round the first m places. -/
def Filled (ps : List (Int × Bool)) (L : Nat) (zs : List Int) (m : Nat) (f : Int) (I n : Nat) : Prop :=
  ∀ k : Nat, k < n → (ringGet ps L ((L : Int) + k)).2 = decide (k < m ∧ ((k : Int) - f) % m < I) ∧ (k < m → ((k : Int) - f) % m < I → (ringGet ps L ((L : Int) + k)).1 = zs.getD (L + k) 0)
/-- Things lie from l on, ahead of e. -/
def Lies (ps : List (Int × Bool)) (l : Nat) (zs : List Int) (e n : Nat) : Prop :=
  ∀ k : Nat, k < n → (ringGet ps l ((l : Int) + k)).2 = decide (l + k < e) ∧ (l + k < e → (ringGet ps l ((l : Int) + k)).1 = zs.getD (l + k) 0)

theorem turn_back (f : Int) (I m : Nat) (hm : I < m) : ((f + I) % m - f) % (m : Int) = I := by
  have e := Int.emod_add_mul_ediv (f + I) m
  have : (f + I) % (m : Int) - f = I - m * ((f + I) / m) := by omega
  rw [this, Int.sub_mul_emod_self_left, Int.emod_eq_of_lt (by omega) (by omega)]

theorem Filled.put {ps : List (Int × Bool)} {L : Nat} {zs : List Int} {m : Nat} {f : Int} {I n k : Nat} (h : Filled ps L zs m f I n) (hps : ps.length = n) (hm : m ≤ n) (hI : I < m) (hk : (f + I) % (m : Int) = k) :
    ringOk ps L ((L : Int) + k) = true ∧ Filled (ringPut ps ((L : Int) + k) (zs.getD (L + k) 0)) L zs m f (I + 1) n ∧ (ringTo (ringPut ps ((L : Int) + k) (zs.getD (L + k) 0)) L n).length = (ringTo ps L n).length + 1 ∧
      ringGet (ringPut ps ((L : Int) + k) (zs.getD (L + k) 0)) L ((L : Int) + k) = (zs.getD (L + k) 0, true) ∧ ringOk (ringPut ps ((L : Int) + k) (zs.getD (L + k) 0)) L ((L : Int) + k) = false := by
  have hkm : k < m := by
    have := Int.emod_lt_of_pos (f + I) (show (0 : Int) < m by omega)
    omega
  have hback := turn_back f I m hI
  rw [hk] at hback
  have hfree := (h k (by omega)).1
  rw [hback] at hfree
  have hfree : (ringGet ps L ((L : Int) + k)).2 = false := by rw [hfree]; simp
  have hok : ringOk ps L ((L : Int) + k) = true := by
    unfold ringGet at hfree
    rw [if_pos (by omega)] at hfree
    unfold ringOk
    rw [hfree, decide_eq_true (by omega), decide_eq_true (by omega)]
    rfl
  have hget := ringGet_put hok (zs.getD (L + k) 0)
  have hown : ringGet (ringPut ps ((L : Int) + k) (zs.getD (L + k) 0)) L ((L : Int) + k) = (zs.getD (L + k) 0, true) := by rw [hget, if_pos rfl]
  refine ⟨hok, ?_, ?_, hown, ?_⟩
  · intro k' hk'
    rw [hget]
    by_cases e : k' = k
    · subst e
      rw [if_pos rfl, hback]
      exact ⟨(decide_eq_true (by omega)).symm, fun _ _ => rfl⟩
    · rw [if_neg (by omega)]
      obtain ⟨g1, g2⟩ := h k' hk'
      have hne : k' < m → ((k' : Int) - f) % m ≠ I := fun hlt heq => by
        have := emod_inj (n := (m : Int)) (by omega) (show ((k' : Int) - f) % m = ((k : Int) - f) % m by rw [heq, hback]) (by omega) (by omega)
        omega
      refine ⟨?_, fun a b => g2 a (by have := hne a; omega)⟩
      rw [g1, decide_eq_decide]
      constructor
      · rintro ⟨a, b⟩; exact ⟨a, by omega⟩
      · rintro ⟨a, b⟩; exact ⟨a, by have := hne a; omega⟩
  · rw [ringTo_view, ringTo_view, viewTo_congr (g' := fun k' => if k' = (L : Int) + k then (zs.getD (L + k) 0, true) else ringGet ps L k') fun a _ _ => hget a,
      view_put (by omega) (by omega) hfree, refPut_length]
  · unfold ringGet at hown
    have hl : (ringPut ps ((L : Int) + k) (zs.getD (L + k) 0)).length = n := by simp [ringPut, hps]
    rw [if_pos (by omega)] at hown
    unfold ringOk
    rw [hown]
    simp
theorem Filled.lies {ps : List (Int × Bool)} {L : Nat} {zs : List Int} {m : Nat} {f : Int} {n : Nat} (h : Filled ps L zs m f m n) (hm : 0 < m) : Lies ps L zs (L + m) n := by
  intro k hk
  obtain ⟨g1, g2⟩ := h k hk
  have hlt := Int.emod_lt_of_pos ((k : Int) - f) (show (0 : Int) < m by omega)
  refine ⟨?_, fun a => g2 (by omega) hlt⟩
  rw [g1, decide_eq_decide]
  omega
theorem Lies.drop {ps : List (Int × Bool)} {l : Nat} {zs : List Int} {e n : Nat} (h : Lies ps l zs e n) (hps : ps.length = n) (hn : 0 < n) (hl : l < e) (he : e ≤ l + n) (hs : l < 4611686018427387904) :
    ringDrops ps l = true ∧ (ringGet ps l l).1 = zs.getD l 0 ∧ Lies (ringDrop ps l) (l + 1) zs e n := by
  have h0 := h 0 hn
  have e0 : (l : Int) + ((0 : Nat) : Int) = l := by omega
  rw [e0] at h0
  have hd : ringDrops ps l = true := by
    unfold ringDrops
    rw [h0.1, decide_eq_true (by omega), decide_eq_true (by omega)]
    rfl
  refine ⟨hd, h0.2 (by omega), ?_⟩
  intro k hk
  have e1 : ((l + 1 : Nat) : Int) = (l : Int) + 1 := by omega
  rw [e1, ringGet_drop hd]
  by_cases g : k + 1 < n
  · rw [if_pos (by omega)]
    have := h (k + 1) g
    rw [show (l : Int) + ((k + 1 : Nat) : Int) = (l : Int) + 1 + k by omega] at this
    refine ⟨?_, fun a => ?_⟩
    · rw [this.1, decide_eq_decide]; omega
    · rw [this.2 (by omega), show l + (k + 1) = l + 1 + k by omega]
  · rw [if_neg (by omega)]
    exact ⟨(decide_eq_false (by omega)).symm, fun a => by omega⟩
theorem filled_none {ps : List (Int × Bool)} {L : Nat} {n : Nat} (h : ∀ k : Nat, k < n → (ringGet ps L ((L : Int) + k)).2 = false) (zs : List Int) (m : Nat) (f : Int) : Filled ps L zs m f 0 n ∧ (ringTo ps L n).length = 0 := by
  refine ⟨fun k hk => ?_, ?_⟩
  · rw [h k hk]
    refine ⟨(decide_eq_false ?_).symm, fun a b => ?_⟩
    · rintro ⟨a, b⟩
      have := Int.emod_nonneg ((k : Int) - f) (show (m : Int) ≠ 0 by omega)
      omega
    · have := Int.emod_nonneg ((k : Int) - f) (show (m : Int) ≠ 0 by omega)
      omega
  · rw [ringTo_view, view_empty fun a h1 h2 => by
      have := h (a - L).toNat (by omega)
      rwa [show (L : Int) + ((a - L).toNat : Int) = a by omega] at this]
    rfl
theorem Lies.none {ps : List (Int × Bool)} {l : Nat} {zs : List Int} {n : Nat} (h : Lies ps l zs l n) : ∀ k : Nat, k < n → (ringGet ps l ((l : Int) + k)).2 = false := fun k hk => by
  rw [(h k hk).1]
  exact decide_eq_false (by omega)
theorem no_drop {ps : List (Int × Bool)} {L : Nat} {n : Nat} (hn : 0 < n) (h : ∀ k : Nat, k < n → (ringGet ps L ((L : Int) + k)).2 = false) : ringDrops ps L = false := by
  have := h 0 hn
  rw [show (L : Int) + ((0 : Nat) : Int) = L by omega] at this
  unfold ringDrops
  rw [this]
  rfl
end Go.Proofs.Ythjcomekfiibnaa
