/- Rows of structs: where the cells of each lie; a struct that is laid over another one. No program in it. -/
import Derived.Test.YtibbnikfecilhaaBase
import Derived.Laws.Rows
import Derived.Deep.OwnRows
namespace Go.Proofs.Ytibbnikfecilhaa
open Go.RowKit
set_option linter.unusedVariables false
set_option linter.unusedSimpArgs false

section
variable {α : Type} (f : α → List Value) (K : Nat) (hf : ∀ x, (f x).length = K)
include hf
theorem flat_len : ∀ l : List α, (l.flatMap f).length = l.length * K := by
  intro l
  induction l with
  | nil => simp
  | cons x xs ih => rw [List.flatMap_cons, List.length_append, ih, hf, List.length_cons, Nat.succ_mul]; omega
theorem flat_at (d : α) : ∀ (l : List α) (i : Nat), i < l.length → ∀ j, j < K → (l.flatMap f)[i * K + j]? = (f (l.getD i d))[j]? := by
  intro l
  induction l with
  | nil => intro i hi; simp at hi
  | cons x xs ih =>
    intro i hi j hj
    rw [List.flatMap_cons]
    cases i with
    | zero => rw [Nat.zero_mul, Nat.zero_add, List.getElem?_append_left (by rw [hf]; exact hj)]; rfl
    | succ i =>
      rw [List.getElem?_append_right (by rw [hf, Nat.succ_mul]; omega), hf, show (i + 1) * K + j - K = i * K + j by rw [Nat.succ_mul]; omega]
      exact ih i (by simpa using hi) j hj
end
theorem made_flat {α : Type} (f : α → List Value) (K : Nat) (hK : 0 < K) (hf : ∀ x, (f x).length = K) (x : α) (z : Array Value) (hz : z.size = K) (hx : f x = z.toList) (n : Nat) : (madeCells z (n * K)).toList = (List.replicate n x).flatMap f := by
  refine List.ext_getElem? fun i => ?_
  by_cases hi : i < n * K
  · have h1 : (madeCells z (n * K)).toList[i]? = some (z[i % z.size]!) := by simp [madeCells, hi]
    have hq : i / K < n := (Nat.div_lt_iff_lt_mul hK).2 hi
    have hr : i % K < K := Nat.mod_lt _ hK
    have h2 := flat_at f K hf x (List.replicate n x) (i / K) (by simpa using hq) (i % K) hr
    rw [show i / K * K + i % K = i by rw [Nat.mul_comm]; exact Nat.div_add_mod i K] at h2
    rw [h1, h2, hz, List.getD_eq_getElem?_getD, List.getElem?_replicate, if_pos hq]
    simp only [Option.getD_some]
    rw [hx]
    have hr2 : i % K < z.size := by rw [hz]; exact hr
    rw [Array.getElem?_toList, Array.getElem?_eq_getElem hr2, getElem!_pos z (i % K) hr2]
  · rw [List.getElem?_eq_none (by simp [madeCells]; omega), List.getElem?_eq_none (by rw [flat_len f K hf]; simp; omega)]
/-- Values laid over a list, from a place on. -/
def putL : List Value → Nat → List Value → List Value
  | cs, _, [] => cs
  | cs, o, v :: vs => putL (cs.set o v) (o + 1) vs
theorem putL_len : ∀ (vs cs : List Value) (o : Nat), (putL cs o vs).length = cs.length := by
  intro vs
  induction vs with
  | nil => intro cs o; rfl
  | cons v vs ih => intro cs o; rw [putL, ih, List.length_set]
theorem putL_get : ∀ (vs cs : List Value) (o i : Nat), o + vs.length ≤ cs.length → (putL cs o vs)[i]? = if o ≤ i ∧ i < o + vs.length then vs[i - o]? else cs[i]? := by
  intro vs
  induction vs with
  | nil => intro cs o i h; rw [putL, if_neg (by simp)]
  | cons v vs ih =>
    intro cs o i h
    simp only [List.length_cons] at h
    rw [putL, ih _ _ _ (by rw [List.length_set]; omega)]
    by_cases h1 : o + 1 ≤ i ∧ i < o + 1 + vs.length
    · rw [if_pos h1, if_pos (by simp only [List.length_cons]; omega), show i - o = (i - (o + 1)) + 1 by omega, List.getElem?_cons_succ]
    · rw [if_neg h1]
      by_cases h2 : i = o
      · subst h2
        rw [if_pos (by constructor <;> simp), Nat.sub_self, List.getElem?_set_self (by omega), List.getElem?_cons_zero]
      · rw [if_neg (by simp only [List.length_cons]; omega), List.getElem?_set_ne (Ne.symm h2)]
theorem putL_all {cs vs : List Value} (h : cs.length = vs.length) : putL cs 0 vs = vs := by
  refine List.ext_getElem? fun i => ?_
  rw [putL_get vs cs 0 i (by omega)]
  by_cases hi : i < vs.length
  · rw [if_pos (by omega)]; rfl
  · rw [if_neg (by omega), List.getElem?_eq_none (by omega), List.getElem?_eq_none (by omega)]
theorem putL_flat {α : Type} (f : α → List Value) (K : Nat) (hK : 0 < K) (hf : ∀ x, (f x).length = K) (d : α) (l : List α) (i : Nat) (hi : i < l.length) (x : α) : putL (l.flatMap f) (i * K) (f x) = (l.set i x).flatMap f := by
  have hl := flat_len f K hf l
  have hlt : (i + 1) * K ≤ l.length * K := Nat.mul_le_mul_right _ hi
  rw [Nat.succ_mul] at hlt
  refine List.ext_getElem? fun j => ?_
  rw [putL_get _ _ _ _ (by rw [hl, hf]; exact hlt), hf]
  by_cases hj : j < l.length * K
  · have hq : j / K < l.length := (Nat.div_lt_iff_lt_mul hK).2 hj
    have hr : j % K < K := Nat.mod_lt _ hK
    have hjq : j / K * K + j % K = j := by rw [Nat.mul_comm]; exact Nat.div_add_mod j K
    have e1 := flat_at f K hf d (l.set i x) (j / K) (by rw [List.length_set]; exact hq) (j % K) hr
    have e2 := flat_at f K hf d l (j / K) hq (j % K) hr
    rw [hjq] at e1 e2
    rw [e1, e2]
    by_cases e : j / K = i
    · have hji : j = i * K + j % K := by rw [← e]; exact hjq.symm
      rw [if_pos (by omega), show j - i * K = j % K by omega, e, List.getD_eq_getElem?_getD, List.getElem?_set_self hi]
      rfl
    · rw [if_neg, List.getD_eq_getElem?_getD, List.getD_eq_getElem?_getD, List.getElem?_set_ne (Ne.symm e)]
      rintro ⟨h1, h2⟩
      exact e (by
        have h3 : i ≤ j / K := (Nat.le_div_iff_mul_le hK).2 h1
        have h4 : j / K < i + 1 := (Nat.div_lt_iff_lt_mul hK).2 (by rw [Nat.succ_mul]; exact h2)
        omega)
  · have hil : i * K + K ≤ l.length * K := hlt
    rw [if_neg (by omega), List.getElem?_eq_none (by rw [hl]; omega), List.getElem?_eq_none (by rw [flat_len f K hf, List.length_set]; omega)]
/-- Cells laid one behind the other into a block. -/
def puts (w : World) (b : Nat) : Nat → List Value → World
  | _, [] => w
  | o, v :: vs => puts (w.setCell ⟨b, o, none⟩ v) b (o + 1) vs
theorem puts_same {b : Nat} {t : TypeId} {fr : Nat × Nat} : ∀ (vs : List Value) (w : World) (cs : List Value) (o : Nat), w.heap[b]? = some (.cells cs.toArray t fr) → (puts w b o vs).heap[b]? = some (.cells (putL cs o vs).toArray t fr) := by
  intro vs
  induction vs with
  | nil => intro w cs o h; exact h
  | cons v vs ih => intro w cs o h; exact ih _ _ _ (setCell_same h v)
theorem puts_only {S : Nat → Prop} {b : Nat} (hb : S b) : ∀ (vs : List Value) (w0 w : World) (o : Nat), Only S w0 w → Only S w0 (puts w b o vs) := by
  intro vs
  induction vs with
  | nil => intro w0 w o h; exact h
  | cons v vs ih => intro w0 w o h; exact ih _ _ _ (h.setCell ⟨b, o, none⟩ v (.inl hb))
theorem puts_new {S : Nat → Prop} {b : Nat} {w0 : World} (hb : w0.heap.size ≤ b) : ∀ (vs : List Value) (w : World) (o : Nat), Only S w0 w → Only S w0 (puts w b o vs) := by
  intro vs
  induction vs with
  | nil => intro w o h; exact h
  | cons v vs ih => intro w o h; exact ih _ _ (h.setCell ⟨b, o, none⟩ v (.inr hb))
theorem puts_size : ∀ (vs : List Value) (w : World) (b o : Nat), (puts w b o vs).heap.size = w.heap.size := by
  intro vs
  induction vs with
  | nil => intro w b o; rfl
  | cons v vs ih => intro w b o; rw [puts, ih]; simp [World.setCell]
end Go.Proofs.Ytibbnikfecilhaa
