/- Chapter 6: rows of rows of numbers in memory; how they are held against each other. -/
import Derived.Test.YtmiijnemacgbiaaRead
import Derived.Test.YtmiijnemacgbiaaSl
import Derived.Test.YtmiijnemacgbiaaRows
import Derived.StillTailTactics
import Derived.BigQuiet
import Derived.Laws.Rows
import Derived.IntWalk
import Derived.Maps.AppendAt
import Derived.Deep.DeepCutAuto
import Derived.Deep.CutBlock
import Derived.Deep.RegionHeld3
import Derived.Deep.RegionLaw
import Derived.Deep.AppendLies
import Derived.Deep.QuietTactic
namespace Go.Proofs.Ytmiijnemacgbiaa
open Go.RowKit
set_option linter.unusedVariables false
set_option linter.unusedSimpArgs false

/-! ### The plain law -/
/-- One row held against another, element by element. -/
def lexC {α : Type} (c : α → α → Int) : List α → List α → Int
  | [], [] => 0
  | [], _ :: _ => -1
  | _ :: _, [] => 1
  | x :: xs, y :: ys => if c x y = 0 then lexC c xs ys else c x y
def cmpI (a b : Int) : Int := if a < b then -1 else if b < a then 1 else 0
def cmpL : List Int → List Int → Int := lexC cmpI
def cmpLL : List (List Int) → List (List Int) → Int := lexC cmpL
theorem lexC_step {α : Type} (c : α → α → Int) {l k : List α} {I : Nat} {a b : α} (ha : l[I]? = some a) (hb : k[I]? = some b) :
    lexC c (l.drop I) (k.drop I) = if c a b = 0 then lexC c (l.drop (I + 1)) (k.drop (I + 1)) else c a b := by
  obtain ⟨h1, rfl⟩ := List.getElem?_eq_some_iff.1 ha
  obtain ⟨h2, rfl⟩ := List.getElem?_eq_some_iff.1 hb
  rw [List.drop_eq_getElem_cons h1, List.drop_eq_getElem_cons h2]
  rfl
theorem lexC_long {α : Type} (c : α → α → Int) {l k : List α} {I : Nat} (ha : I < l.length) (hb : k.length ≤ I) : lexC c (l.drop I) (k.drop I) = 1 := by
  rw [List.drop_eq_getElem_cons ha, List.drop_of_length_le hb]
  rfl
theorem lexC_end {α : Type} (c : α → α → Int) {l k : List α} {I : Nat} (ha : l.length ≤ I) : lexC c (l.drop I) (k.drop I) = if I < k.length then -1 else 0 := by
  rw [List.drop_of_length_le ha]
  split
  · rename_i h
    rw [List.drop_eq_getElem_cons h]
    rfl
  · rename_i h
    rw [List.drop_of_length_le (by omega)]
    rfl
/-- An order in which two are the same or one is ahead. -/
structure Ord3 {α : Type} (c : α → α → Int) : Prop where
  rng : ∀ a b, c a b = -1 ∨ c a b = 0 ∨ c a b = 1
  anti : ∀ a b, c b a = -c a b
  refl : ∀ a, c a a = 0
  le : ∀ a b d, c a b ≤ 0 → c b d ≤ 0 → c a d ≤ 0
  lt : ∀ a b d, c a b = 0 → c a d = c b d
theorem cmpI_ord : Ord3 cmpI := by
  refine ⟨fun a b => ?_, fun a b => ?_, fun a => ?_, fun a b d => ?_, fun a b d => ?_⟩ <;> unfold cmpI <;> (try split) <;> (try split) <;> (try split) <;> (try split) <;> (try split) <;> (try split) <;> omega
theorem lexC_ord {α : Type} {c : α → α → Int} (h : Ord3 c) : Ord3 (lexC c) := by
  have hz : ∀ a b, c a b = 0 → c b a = 0 := fun a b e => by rw [h.anti, e]; rfl
  refine ⟨?_, ?_, ?_, ?_, ?_⟩
  · intro a
    induction a with
    | nil => intro b; cases b <;> simp [lexC]
    | cons x xs ih =>
      intro b
      cases b with
      | nil => simp [lexC]
      | cons y ys =>
        simp only [lexC]
        split
        · exact ih ys
        · exact h.rng x y
  · intro a
    induction a with
    | nil => intro b; cases b <;> simp [lexC]
    | cons x xs ih =>
      intro b
      cases b with
      | nil => simp [lexC]
      | cons y ys =>
        simp only [lexC]
        by_cases e : c x y = 0
        · rw [if_pos e, if_pos (hz _ _ e)]; exact ih ys
        · rw [if_neg e, if_neg (fun e2 => e (hz _ _ e2))]; exact h.anti x y
  · intro a
    induction a with
    | nil => rfl
    | cons x xs ih => simp only [lexC]; rw [if_pos (h.refl x)]; exact ih
  · intro a
    induction a with
    | nil => intro b d h1 h2; cases d <;> simp [lexC]
    | cons x xs ih =>
      intro b d h1 h2
      cases b with
      | nil => simp [lexC] at h1
      | cons y ys =>
        cases d with
        | nil => simp [lexC] at h2
        | cons z zs =>
          simp only [lexC] at h1 h2 ⊢
          by_cases e1 : c x y = 0
          · rw [if_pos e1] at h1
            rw [h.lt x y z e1]
            by_cases e2 : c y z = 0
            · rw [if_pos e2] at h2 ⊢
              exact ih ys zs h1 h2
            · rw [if_neg e2] at h2 ⊢
              exact h2
          · rw [if_neg e1] at h1
            by_cases e2 : c y z = 0
            · have e3 : c x z = c x y := by
                have := h.lt z y x (hz _ _ e2)
                rw [h.anti x z, h.anti x y] at this
                omega
              rw [e3, if_neg e1]
              exact h1
            · rw [if_neg e2] at h2
              have h3 := h.le x y z h1 h2
              by_cases e3 : c x z = 0
              · exfalso
                have e4 := h.lt x z y e3
                have e5 := h.anti y z
                omega
              · rw [if_neg e3]; exact h3
  · intro a
    induction a with
    | nil => intro b d h1; cases b with
      | nil => rfl
      | cons y ys => simp [lexC] at h1
    | cons x xs ih =>
      intro b d h1
      cases b with
      | nil => simp [lexC] at h1
      | cons y ys =>
        simp only [lexC] at h1
        by_cases e1 : c x y = 0
        · rw [if_pos e1] at h1
          cases d with
          | nil => rfl
          | cons z zs =>
            simp only [lexC]
            rw [h.lt x y z e1, ih ys zs h1]
        · rw [if_neg e1] at h1
          exact absurd h1 e1
theorem lexC_more {α : Type} {c : α → α → Int} (h : Ord3 c) (l : List α) (x : α) : lexC c l (l ++ [x]) = -1 := by
  induction l with
  | nil => rfl
  | cons a r ih => simp only [List.cons_append, lexC]; rw [if_pos (h.refl a)]; exact ih
theorem cmpLL_ord : Ord3 cmpLL := lexC_ord (lexC_ord cmpI_ord)

/-! ### In memory -/
theorem IntsAt.below {w w' : World} {a : Option Addr} {n : Nat} {zs : List Int} (h : IntsAt w a n zs) (hb : Below w.heap.size w w') : IntsAt w' a n zs :=
  ⟨h.len, h.small, fun hp => by
    obtain ⟨b, off, rfl, hlt, hc⟩ := h.cells hp
    exact ⟨b, off, rfl, Nat.lt_of_lt_of_le hlt hb.size, fun i hi => (hb.cell (p := ⟨b, off + i, none⟩) hlt).trans (hc i hi)⟩, h.wf⟩
theorem IntsAt.take {w : World} {a : Option Addr} {n : Nat} {zs : List Int} (h : IntsAt w a n zs) {m : Nat} (hm : m ≤ n) : IntsAt w a m (zs.take m) :=
  ⟨by rw [List.length_take, h.len]; omega, by have := h.small; omega, fun hp => by
    obtain ⟨b, off, rfl, hlt, hc⟩ := h.cells (by omega)
    refine ⟨b, off, rfl, hlt, fun i hi => ?_⟩
    rw [hc i (by omega), List.getD_eq_getElem?_getD, List.getD_eq_getElem?_getD, List.getElem?_take_of_lt hi], fun z hz => h.wf z (List.mem_of_mem_take hz)⟩
structure RowV where
  a : Option Addr
  n : Nat
  c : Nat
  zs : List Int
def RowV.val (r : RowV) : Value := .slice r.a r.n r.c
/-- A row of rows. -/
structure RowsAt (w : World) (A : Option Addr) (n : Nat) (rs : List RowV) : Prop where
  len : rs.length = n
  small : n ≤ 140737488351232
  cells : 0 < n → ∃ b off, A = some ⟨b, off, none⟩ ∧ b < w.heap.size ∧ ∀ i r, rs[i]? = some r → w.cell? ⟨b, off + i, none⟩ = some (.slice r.a r.n r.c)
  each : ∀ r ∈ rs, r.n ≤ r.c ∧ r.c ≤ maxLen ∧ (r.a = none → r.n = 0 ∧ r.c = 0) ∧ IntsAt w r.a r.n r.zs
def nums (rs : List RowV) : List (List Int) := rs.map (·.zs)
theorem RowAt.rows {w : World} {A : Option Addr} {n : Nat} {l : List (List Int)} (h : RowAt (kSlice (kInt .i64) 8) 24 w A n l) : ∃ rs, RowsAt w A n rs ∧ nums rs = l := by
  have hp : 0 < n ∨ n = 0 := by omega
  rcases hp with hp | rfl
  · obtain ⟨b, off, rfl, hlt, hc⟩ := h.cells hp
    obtain ⟨rs, hr1, hr2⟩ := rows_of (α := RowV) (n := n) (Q := fun i r => w.cell? ⟨b, off + i, none⟩ = some (.slice r.a r.n r.c) ∧ l[i]? = some r.zs ∧ r.n ≤ r.c ∧ r.c ≤ maxLen ∧ (r.a = none → r.n = 0 ∧ r.c = 0) ∧ IntsAt w r.a r.n r.zs) (fun i hi => by
      have hli : i < l.length := by rw [h.len]; exact hi
      obtain ⟨cs, h1, h2, a, len, cap, rfl, h4, h5, h6, h7⟩ := hc i _ (List.getElem?_eq_getElem hli)
      have h8 := h2 0 (by decide)
      refine ⟨⟨a, len, cap, l[i]⟩, ?_, List.getElem?_eq_getElem hli, h4, h5, h6, h7.ints⟩
      simpa [kSlice] using h8)
    refine ⟨rs, ⟨hr1, by have := h.small; omega, fun _ => ⟨b, off, rfl, hlt, fun i r hi => (hr2 i r hi).1⟩, fun r hr => ?_⟩, ?_⟩
    · obtain ⟨i, hi⟩ := List.getElem?_of_mem hr
      exact (hr2 i r hi).2.2
    · refine List.ext_getElem? fun i => ?_
      unfold nums
      rw [List.getElem?_map]
      cases hi : rs[i]? with
      | none =>
        have : rs.length ≤ i := List.getElem?_eq_none_iff.1 hi
        rw [List.getElem?_eq_none (by rw [h.len]; omega)]
        rfl
      | some r => rw [(hr2 i r hi).2.1]; rfl
  · have : l = [] := List.length_eq_zero_iff.1 h.len
    subst this
    exact ⟨[], ⟨rfl, by decide, fun h => absurd h (by decide), fun r hr => by cases hr⟩, rfl⟩
theorem RowsAt.below {w w' : World} {A : Option Addr} {n : Nat} {rs : List RowV} (h : RowsAt w A n rs) (hb : Below w.heap.size w w') : RowsAt w' A n rs :=
  ⟨h.len, h.small, fun hp => by
    obtain ⟨b, off, rfl, hlt, hc⟩ := h.cells hp
    exact ⟨b, off, rfl, Nat.lt_of_lt_of_le hlt hb.size, fun i r hi => (hb.cell (p := ⟨b, off + i, none⟩) hlt).trans (hc i r hi)⟩, fun r hr => by
    obtain ⟨h1, h2, h3, h4⟩ := h.each r hr
    exact ⟨h1, h2, h3, h4.below hb⟩⟩
theorem nums_at {rs : List RowV} {i : Nat} {r : RowV} (h : rs[i]? = some r) : (nums rs)[i]? = some r.zs := by unfold nums; rw [List.getElem?_map, h]; rfl
theorem nums_length (rs : List RowV) : (nums rs).length = rs.length := by simp [nums]

/-! ### The walks -/
theorem nan_any (x : Int) (w : World) : Calls Try.prog 36 #[.int .i64 x] w fun e w' => e = .returned (.bool false) ∧ w = w' := by
  go_enter Try.func36, Try.ntmps36
  go_wp2_with fail
  go_ret
  exact ⟨rfl, rfl⟩
theorem ccmp_any (x y : Int) (w : World) : Calls Try.prog 33 #[.int .i64 x, .int .i64 y] w fun e w' => e = .returned (.int .i64 (cmpI x y)) ∧ w = w' := by
  by_cases h1 : x < y
  · have e : cmpI x y = -1 := if_pos h1
    rw [e]
    go_enter Try.func33, Try.ntmps33
    go_wp2_with fail
    refine (nan_any _ _).mono ?_
    rintro e w' ⟨rfl, rfl⟩
    go_wp2_with fail
    refine (nan_any _ _).mono ?_
    rintro e w' ⟨rfl, rfl⟩
    go_wp2_with fail
    go_ret
    exact ⟨rfl, rfl⟩
  · by_cases h2 : y < x
    · have e : cmpI x y = 1 := (if_neg h1).trans (if_pos h2)
      rw [e]
      go_enter Try.func33, Try.ntmps33
      go_wp2_with fail
      refine (nan_any _ _).mono ?_
      rintro e w' ⟨rfl, rfl⟩
      go_wp2_with fail
      refine (nan_any _ _).mono ?_
      rintro e w' ⟨rfl, rfl⟩
      go_wp2_with fail
      go_ret
      exact ⟨rfl, rfl⟩
    · have e : cmpI x y = 0 := (if_neg h1).trans (if_neg h2)
      rw [e]
      go_enter Try.func33, Try.ntmps33
      go_wp2_with fail
      refine (nan_any _ _).mono ?_
      rintro e w' ⟨rfl, rfl⟩
      go_wp2_with fail
      refine (nan_any _ _).mono ?_
      rintro e w' ⟨rfl, rfl⟩
      go_wp2_with fail
      go_ret
      exact ⟨rfl, rfl⟩
set_option maxHeartbeats 4000000 in
theorem lcmp_any {w : World} {a b : Option Addr} {n m c d : Nat} {zs ys : List Int} (h : IntsAt w a n zs) (k : IntsAt w b m ys) :
    Calls Try.prog 25 #[.slice a n c, .slice b m d] w fun e w' => e = .returned (.int .i64 (cmpL zs ys)) ∧ w = w' := by
  have hsm : n ≤ 140737488351232 := by have := h.small; omega
  have H := Lib.hid h
  have K := Lib.hid k
  clear h k
  obtain ⟨R, hR⟩ : ∃ R, cmpL zs ys = R := ⟨_, rfl⟩
  rw [hR]
  have HR := Lib.hid hR
  clear hR
  go_enter Try.func25, Try.ntmps25
  go_wp2_with fail
  go_loop [11] (fun i => ∃ I : Nat, I ≤ n ∧ i = .int .i64 I ∧ lexC cmpI (zs.drop I) (ys.drop I) = R) (fun i => n - (intOf i).toNat)
  case atStart => exact ⟨0, Nat.zero_le _, rfl, HR.out⟩
  case round =>
    obtain ⟨I, hI, rfl, hr⟩ := hrel
    by_cases hlt : I < n
    · obtain ⟨g, off, rfl, hg, hc⟩ := H.out.cells (by omega)
      have c1 := hc I hlt
      have iI : (I : Int) < n := by omega
      have hz : zs[I]? = some (zs.getD I 0) := by
        rw [List.getD_eq_getElem?_getD, List.getElem?_eq_getElem (by rw [H.out.len]; exact hlt)]; rfl
      by_cases hlt2 : I < m
      · obtain ⟨g2, off2, rfl, hg2, hc2⟩ := K.out.cells (by omega)
        have c2 := hc2 I hlt2
        have d2 : decide ((m : Int) ≤ I) = false := decide_eq_false (by omega)
        have hy : ys[I]? = some (ys.getD I 0) := by
          rw [List.getD_eq_getElem?_getD, List.getElem?_eq_getElem (by rw [K.out.len]; exact hlt2)]; rfl
        have hs := lexC_step cmpI hz hy
        rw [hr] at hs
        generalize zs.getD I 0 = x at *
        generalize ys.getD I 0 = y at *
        have HS := Lib.hid hs
        clear hc hc2 hs hr hz hy
        go_wp2_with fail
        refine (ccmp_any x y _).mono ?_
        rintro e w' ⟨rfl, rfl⟩
        by_cases h0 : cmpI x y = 0
        · have hs := HS.out
          rw [if_pos h0] at hs
          rw [h0]
          have HS2 := Lib.hid hs
          clear hs h0 HS
          go_wp2_with fail
          exact ⟨⟨I + 1, hlt, by simp, HS2.out.symm⟩, by simp [intOf]; omega⟩
        · have hs := HS.out
          rw [if_neg h0] at hs
          rw [← hs] at h0 ⊢
          have h0' : (R != 0) = true := by simpa using h0
          clear HS HR hs h0
          go_wp2_with fail
          go_ret
          exact ⟨rfl, rfl⟩
      · have i2 : (m : Int) ≤ I := by omega
        have hs := lexC_long cmpI (l := zs) (k := ys) (I := I) (by rw [H.out.len]; exact hlt) (by rw [K.out.len]; omega)
        rw [hr] at hs
        subst hs
        clear hc hr hz HR
        go_wp2_with fail
        go_ret
        exact ⟨rfl, rfl⟩
    · obtain rfl : I = n := by omega
      have iI : ¬ (I : Int) < I := by omega
      have hs := lexC_end cmpI (l := zs) (k := ys) (I := I) (by rw [H.out.len]; exact Nat.le_refl _)
      rw [hr, K.out.len] at hs
      clear hr HR
      by_cases h2 : I < m
      · rw [if_pos h2] at hs
        subst hs
        have i2 : (I : Int) < m := by omega
        go_wp2_with fail
        go_ret
        exact ⟨rfl, rfl⟩
      · rw [if_neg h2] at hs
        subst hs
        have i2 : ¬ (I : Int) < m := by omega
        go_wp2_with fail
        go_ret
        exact ⟨rfl, rfl⟩
end Go.Proofs.Ytmiijnemacgbiaa
