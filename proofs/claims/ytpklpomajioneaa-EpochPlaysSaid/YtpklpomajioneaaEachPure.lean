/- Chapter 12: EpochEach's plain law. -/
import Derived.Test.YtpklpomajioneaaEpLaw
namespace Go.Proofs.Ytpklpomajioneaa
open Go.RowKit
set_option linter.unusedVariables false
set_option linter.unusedSimpArgs false

/-- Of a limbo in the order of epochs what is ripe is its head. -/
theorem split_sorted (now : Int) : ∀ (L : List OldV), L.Pairwise (fun x y => x.ep ≤ y.ep) → ∃ m, m ≤ L.length ∧ toldOf now L = (L.take m).map OldV.ref ∧ keptOf now L = L.drop m ∧ (∀ o ∈ L.take m, ripeB now o = true) ∧ ∀ o, L[m]? = some o → ripeB now o = false
  | [], _ => ⟨0, Nat.le_refl _, rfl, rfl, fun o ho => by simp at ho, fun o ho => by simp at ho⟩
  | x :: L, h => by
    rw [List.pairwise_cons] at h
    cases hr : ripeB now x
    · refine ⟨0, Nat.zero_le _, ?_, ?_, fun o ho => by simp at ho, fun o ho => by simp at ho; subst ho; exact hr⟩
      · have hall : ∀ o ∈ L, ripeB now o = false := fun o ho => by
          have h1 := h.1 o ho
          have h2 : ¬ x.ep ≤ now - 2 := by simpa [ripeB] using hr
          simp [ripeB]
          omega
        unfold toldOf
        rw [List.filter_eq_nil_iff.2 (fun o ho => by
          rcases List.mem_cons.1 ho with rfl | ho
          · rw [hr]; decide
          · rw [hall o ho]; decide)]
        rfl
      · have hall : ∀ o ∈ L, ripeB now o = false := fun o ho => by
          have h1 := h.1 o ho
          have h2 : ¬ x.ep ≤ now - 2 := by simpa [ripeB] using hr
          simp [ripeB]
          omega
        exact List.filter_eq_self.2 (fun o ho => by
          rcases List.mem_cons.1 ho with rfl | ho
          · rw [hr]; rfl
          · rw [hall o ho]; rfl)
    · obtain ⟨m, h1, h2, h3, h4, h5⟩ := split_sorted now L h.2
      refine ⟨m + 1, by simp; omega, ?_, ?_, ?_, fun o ho => h5 o (by simpa using ho)⟩
      · unfold toldOf at h2 ⊢
        rw [List.filter_cons_of_pos (by rw [hr]), List.map_cons, h2]
        rfl
      · unfold keptOf at h3 ⊢
        rw [List.filter_cons_of_neg (by rw [hr]; decide), h3]
        rfl
      · intro o ho
        rw [List.take_succ_cons] at ho
        rcases List.mem_cons.1 ho with rfl | ho
        · exact hr
        · exact h4 o ho
structure EachInv (I : Nat) (s : EpS) (put : Nat → List Nat) (at_ : Nat → Nat) (told : Nat → Nat) : Prop where
  lim : ∀ a, s.lim a = ((put a).drop (told a)).map (fun (i : Nat) => (⟨i, 0, at_ i⟩ : OldV))
  tl : ∀ a, told a ≤ (put a).length
  srt : ∀ a, (put a).Pairwise (fun i j => at_ i ≤ at_ j)
  le : ∀ a, ∀ i ∈ put a, at_ i ≤ s.now ∧ i < I
  nw : s.now ≤ I
  pl : ∀ a, (put a).length ≤ I
theorem EachInv.start : EachInv 0 EpS.zero (fun _ => []) (fun _ => 0) (fun _ => 0) :=
  ⟨fun _ => rfl, fun _ => Nat.le_refl _, fun _ => List.Pairwise.nil, fun a i hi => absurd hi (List.not_mem_nil), Nat.le_refl _, fun _ => Nat.le_refl _⟩
theorem EachInv.later {I : Nat} {s : EpS} {put : Nat → List Nat} {at_ told : Nat → Nat} (h : EachInv I s put at_ told) : EachInv (I + 1) s put at_ told :=
  ⟨h.lim, h.tl, h.srt, fun a i hi => ⟨(h.le a i hi).1, Nat.lt_succ_of_lt (h.le a i hi).2⟩, Nat.le_succ_of_le h.nw, fun a => Nat.le_succ_of_le (h.pl a)⟩
theorem EachInv.pins {I : Nat} {s : EpS} {put : Nat → List Nat} {at_ told : Nat → Nat} (h : EachInv I s put at_ told) (f : Nat → Int) : EachInv I { s with pin := f } put at_ told := ⟨h.lim, h.tl, h.srt, h.le, h.nw, h.pl⟩
theorem EachInv.advance {I : Nat} {s : EpS} {put : Nat → List Nat} {at_ told : Nat → Nat} (h : EachInv I s put at_ told) : EachInv (I + 1) { s with now := s.now + 1 } put at_ told :=
  ⟨h.lim, h.tl, h.srt, fun a i hi => ⟨Nat.le_succ_of_le (h.le a i hi).1, Nat.lt_succ_of_lt (h.le a i hi).2⟩, Nat.succ_le_succ h.nw, fun a => Nat.le_succ_of_le (h.pl a)⟩
theorem EachInv.retire {I : Nat} {s : EpS} {put : Nat → List Nat} {at_ told : Nat → Nat} (h : EachInv I s put at_ told) (a : Nat) :
    EachInv (I + 1) { s with lim := upd s.lim a (s.lim a ++ [⟨(I : Int), 0, s.now⟩]) } (upd put a (put a ++ [I])) (upd at_ I s.now) told := by
  have hat : ∀ b, ∀ i ∈ put b, upd at_ I s.now i = at_ i := fun b i hi => upd_other _ _ (by have := (h.le b i hi).2; omega)
  refine ⟨fun b => ?_, fun b => ?_, fun b => ?_, fun b i hi => ?_, Nat.le_succ_of_le h.nw, fun b => ?_⟩
  · show upd s.lim a (s.lim a ++ [⟨(I : Int), 0, s.now⟩]) b = _
    have hm : ∀ c, ((put c).drop (told c)).map (fun (i : Nat) => (⟨i, 0, at_ i⟩ : OldV)) = ((put c).drop (told c)).map (fun (i : Nat) => (⟨i, 0, (((upd at_ I s.now) i : Nat) : Int)⟩ : OldV)) := fun c => by
      apply List.map_congr_left
      intro i hi
      rw [hat c i (List.mem_of_mem_drop hi)]
    by_cases e : b = a
    · subst e
      rw [upd_same, upd_same, List.drop_append_of_le_length (h.tl b), List.map_append, ← hm b, ← h.lim b]
      simp [upd_same]
    · rw [upd_other _ _ e, upd_other _ _ e, h.lim b, hm b]
  · by_cases e : b = a
    · subst e
      rw [upd_same, List.length_append]
      exact Nat.le_succ_of_le (h.tl b)
    · rw [upd_other _ _ e]
      exact h.tl b
  · have hs : (put b).Pairwise (fun i j => upd at_ I s.now i ≤ upd at_ I s.now j) := by
      refine List.Pairwise.imp_of_mem (fun hx hy hxy => ?_) (h.srt b)
      rw [hat b _ hx, hat b _ hy]
      exact hxy
    by_cases e : b = a
    · subst e
      rw [upd_same, List.pairwise_append]
      refine ⟨hs, List.pairwise_singleton _ _, fun x hx y hy => ?_⟩
      rw [List.mem_singleton] at hy
      subst hy
      rw [hat b x hx, upd_same]
      exact (h.le b x hx).1
    · rw [upd_other _ _ e]
      exact hs
  · have hold : ∀ i ∈ put b, upd at_ I s.now i ≤ s.now ∧ i < I + 1 := fun i hi => by
      rw [hat b i hi]
      exact ⟨(h.le b i hi).1, Nat.lt_succ_of_lt (h.le b i hi).2⟩
    by_cases e : b = a
    · subst e
      rw [upd_same, List.mem_append, List.mem_singleton] at hi
      rcases hi with hi | rfl
      · exact hold i hi
      · rw [upd_same]
        exact ⟨Nat.le_refl _, Nat.lt_succ_self _⟩
    · rw [upd_other _ _ e] at hi
      exact hold i hi
  · by_cases e : b = a
    · subst e
      rw [upd_same, List.length_append]
      exact Nat.succ_le_succ (h.pl b)
    · rw [upd_other _ _ e]
      exact Nat.le_succ_of_le (h.pl b)
/-- What comes of asking: the next ones of the actor's, all ripe; the next one then is not. -/
theorem EachInv.ripe {I : Nat} {s : EpS} {put : Nat → List Nat} {at_ told : Nat → Nat} (h : EachInv I s put at_ told) (a : Nat) :
    ∃ m, (toldOf s.now (s.lim a)).length = m ∧ told a + m ≤ (put a).length ∧
      (∀ k, k < m → ∃ i, (put a)[told a + k]? = some i ∧ (toldOf s.now (s.lim a))[k]? = some ⟨i, 0⟩ ∧ (at_ i : Int) ≤ s.now - 2) ∧
      (∀ i, (put a)[told a + m]? = some i → ¬ (at_ i : Int) ≤ s.now - 2) ∧
      EachInv I { s with lim := upd s.lim a (keptOf s.now (s.lim a)) } put at_ (upd told a (told a + m)) := by
  have hsrt : (s.lim a).Pairwise (fun x y => x.ep ≤ y.ep) := by
    rw [h.lim a, List.pairwise_map]
    refine List.Pairwise.imp (fun hxy => ?_) ((h.srt a).drop (i := told a))
    show ((at_ _ : Nat) : Int) ≤ at_ _
    omega
  obtain ⟨m, h1, h2, h3, h4, h5⟩ := split_sorted s.now (s.lim a) hsrt
  have hlen : (s.lim a).length = (put a).length - told a := by rw [h.lim a, List.length_map, List.length_drop]
  have htl := h.tl a
  have hm : (toldOf s.now (s.lim a)).length = m := by rw [h2, List.length_map, List.length_take]; omega
  refine ⟨m, hm, by omega, fun k hk => ?_, fun i hi hle => ?_, ⟨fun b => ?_, fun b => ?_, h.srt, h.le, h.nw, h.pl⟩⟩
  · have hlt : told a + k < (put a).length := by omega
    refine ⟨(put a)[told a + k], List.getElem?_eq_getElem hlt, ?_, ?_⟩
    · rw [h2, h.lim a, List.getElem?_map, List.getElem?_take, if_pos hk, List.getElem?_map, List.getElem?_drop, List.getElem?_eq_getElem hlt]
      rfl
    · have hmem : (⟨((put a)[told a + k] : Nat), 0, at_ (put a)[told a + k]⟩ : OldV) ∈ (s.lim a).take m := by
        refine List.mem_of_getElem? (i := k) ?_
        rw [List.getElem?_take, if_pos hk, h.lim a, List.getElem?_map, List.getElem?_drop, List.getElem?_eq_getElem hlt]
        rfl
      have := h4 _ hmem
      simpa [ripeB] using this
  · have := h5 ⟨(i : Int), 0, at_ i⟩ (by rw [h.lim a, List.getElem?_map, List.getElem?_drop, hi]; rfl)
    have hn : ¬ (at_ i : Int) ≤ s.now - 2 := by simpa [ripeB] using this
    exact hn hle
  · show upd s.lim a (keptOf s.now (s.lim a)) b = _
    by_cases e : b = a
    · subst e
      rw [upd_same, upd_same, h3, h.lim b, ← List.map_drop, List.drop_drop]
    · rw [upd_other _ _ e, upd_other _ _ e, h.lim b]
  · by_cases e : b = a
    · subst e
      rw [upd_same]
      omega
    · rw [upd_other _ _ e]
      exact h.tl b
theorem EachInv.limbo {I : Nat} {s : EpS} {put : Nat → List Nat} {at_ told : Nat → Nat} (h : EachInv I s put at_ told) (a : Nat) : (s.lim a).length = (put a).length - told a := by
  rw [h.lim a, List.length_map, List.length_drop]
end Go.Proofs.Ytpklpomajioneaa
