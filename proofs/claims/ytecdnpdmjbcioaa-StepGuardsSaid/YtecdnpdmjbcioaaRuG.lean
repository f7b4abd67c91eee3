/- Rows of codes: ContainsFunc, Concat; table.may. -/
import Derived.Test.YtecdnpdmjbcioaaRuF
namespace Go.Proofs.Ytecdnpdmjbcioaa
open Go.RowKit
set_option linter.unusedVariables false
set_option linter.unusedSimpArgs false

theorem CodesAt.at_ {w : World} {A : Option Addr} {n : Nat} {cs : List CodeV} (h : CodesAt w A n cs) {K : Nat} (hK : K < n) : ∃ b off, A = some ⟨b, off, none⟩ ∧ b < w.heap.size ∧ cs[K]? = some (cs.getD K CodeV.zero) ∧ ∀ j, j < 5 → w.cell? ⟨b, off + K * 5 + j, none⟩ = (cs.getD K CodeV.zero).cells[j]? := by
  obtain ⟨b, off, rfl, hb, hc⟩ := h.cells (by omega)
  refine ⟨b, off, rfl, hb, ?_, hc K hK⟩
  rw [List.getD_eq_getElem?_getD, List.getElem?_eq_getElem (show K < cs.length by rw [h.len]; exact hK)]
  rfl
theorem any_take {α : Type} {f : α → Bool} {l : List α} {I : Nat} {x : α} (h : l[I]? = some x) (ht : (l.take I).any f = false) (hx : f x = false) : (l.take (I + 1)).any f = false := by
  rw [List.take_add_one, h, List.any_append, ht]
  simp [hx]
theorem any_yes {α : Type} {f : α → Bool} {l : List α} {I : Nat} {x : α} (h : l[I]? = some x) (hx : f x = true) : l.any f = true := List.any_eq_true.mpr ⟨x, List.mem_of_getElem? h, hx⟩
set_option maxHeartbeats 4000000 in
theorem index_c {w : World} {A : Option Addr} {n c P Q : Nat} {cs : List CodeV} {most more : Int} (h : CodesAt w A n cs) (hn : n ≤ 100000) (hP : w.heap[P]? = some (.cells #[.int .i64 most] 3 (0, 0))) (hQ : w.heap[Q]? = some (.cells #[.int .i64 more] 3 (0, 0))) :
    Calls Try.prog 81 #[.slice A n c, .func (.func 69) #[] #[.pointer (some ⟨P, 0, none⟩), .pointer (some ⟨Q, 0, none⟩)]] w fun e w' => ∃ v : Int, e = .returned (.int .i64 v) ∧ decide (0 ≤ v) = cs.any (CodeV.bad most more) ∧ Below w.heap.size w w' := by
  have H := Lib.hid h
  have HP := Lib.hid hP
  have HQ := Lib.hid hQ
  have hbr := Below.refl w.heap.size w
  clear h hP hQ
  go_enter Try.func81, Try.ntmps81
  go_wp2_with fail
  go_loopw [8] (fun i wr => ∃ K : Nat, K ≤ n ∧ i = .int .i64 K ∧ Below w.heap.size w wr ∧ Hid ((cs.take K).any (CodeV.bad most more) = false)) (fun i _ => n - (intOf i).toNat)
  case atStart => exact ⟨0, Nat.zero_le _, rfl, hbr, Lib.hid rfl⟩
  case round =>
    clear hbr
    obtain ⟨K, hK, rfl, hb, HT⟩ := hrel
    by_cases hlt : K < n
    · have iK : (K : Int) < n := by omega
      obtain ⟨b, off, rfl, hbl, hget, hcell⟩ := (H.out.below hb).at_ hlt
      have HC := Lib.hid (mayc_any ((hb.block _ (block_lt HP.out)).trans HP.out) ((hb.block _ (block_lt HQ.out)).trans HQ.out) (cs.getD K CodeV.zero))
      have x0 := hcell 0 (by omega)
      have x1 := hcell 1 (by omega)
      have x2 := hcell 2 (by omega)
      have x3 := hcell 3 (by omega)
      have x4 := hcell 4 (by omega)
      generalize cs.getD K CodeV.zero = cv at *
      obtain ⟨bd, hbd⟩ : ∃ bd, cv.bad most more = bd := ⟨_, rfl⟩
      rw [hbd] at HC
      have HG := Lib.hid hget
      have HD := Lib.hid hbd
      obtain ⟨op, cn, var, field, at_⟩ := cv
      simp only [CodeV.cells, List.getElem?_cons_zero, List.getElem?_cons_succ, Nat.add_zero] at x0 x1 x2 x3 x4 HC
      have HB := Lib.hid hb
      clear hb hbl hcell hget hbd
      go_wp2_with fail
      refine HC.out.mono ?_
      rintro e w' ⟨rfl, hb2⟩
      have HB2 := Lib.hid (bl_then HB.out hb2)
      clear hb2 x0 x1 x2 x3 x4
      cases bd
      · go_wp2_with fail
        go_roundw
        case rel => exact ⟨K + 1, hlt, by simp, HB2.out, Lib.hid (any_take HG.out HT.out HD.out)⟩
        case measure => simp [intOf]; omega
      · have i0 : (0 : Int) ≤ K := by omega
        go_wp2_with fail
        go_ret
        exact ⟨_, rfl, by rw [any_yes HG.out HD.out]; exact decide_eq_true i0, HB2.out⟩
    · obtain rfl : K = n := by omega
      have iK : ¬ (K : Int) < K := by omega
      have hall := HT.out
      rw [List.take_of_length_le (by rw [H.out.len]; exact Nat.le_refl _)] at hall
      have HA := Lib.hid hall
      have HB := Lib.hid hb
      clear hall hb
      go_wp2_with fail
      go_ret
      exact ⟨_, rfl, by rw [HA.out]; rfl, HB.out⟩
theorem contains_c {w : World} {A : Option Addr} {n c P Q : Nat} {cs : List CodeV} {most more : Int} (h : CodesAt w A n cs) (hn : n ≤ 100000) (hP : w.heap[P]? = some (.cells #[.int .i64 most] 3 (0, 0))) (hQ : w.heap[Q]? = some (.cells #[.int .i64 more] 3 (0, 0))) :
    Calls Try.prog 71 #[.slice A n c, .func (.func 69) #[] #[.pointer (some ⟨P, 0, none⟩), .pointer (some ⟨Q, 0, none⟩)]] w fun e w' => e = .returned (.bool (cs.any (CodeV.bad most more))) ∧ Below w.heap.size w w' := by
  have HC := Lib.hid (index_c (c := c) h hn hP hQ)
  obtain ⟨o, ho⟩ : ∃ o, cs.any (CodeV.bad most more) = o := ⟨_, rfl⟩
  rw [ho] at HC ⊢
  clear h hP hQ ho
  go_enter Try.func71, Try.ntmps71
  go_wp2_with fail
  refine HC.out.mono ?_
  rintro e w' ⟨v, rfl, hv, hb⟩
  have HV := Lib.hid hv
  have HB := Lib.hid hb
  clear hv hb
  go_wp2_with fail
  go_ret
  exact ⟨by rw [← HV.out]; rfl, HB.out⟩

def GrowOutC (w : World) (e : Ending) (w' : World) : Prop := ∃ v, e = .returned v ∧ w'.ownsRow w.heap.size 56 5 v 0 [] ∧ Below w.heap.size w w'
set_option maxHeartbeats 2000000 in
set_option maxRecDepth 100000 in
theorem grow_c (n : Nat) (hn : n ≤ 100000) (w : World) : Calls Try.prog 82 #[.slice none 0 0, .int .i64 n] w (GrowOutC w) := by
  obtain ⟨i0, hi, hz0, hz1, hz2⟩ := info_parts infoCode
  by_cases h0 : 0 < n
  · have iN : (0 : Int) < n := by omega
    have hb3 : (Try.t56.bytes : Nat) = 48 := rfl
    have n1 : ¬ n = 0 := by omega
    have n2 : (n : Int) * (Try.t56.bytes : Nat) ≤ 281474976710656 := by rw [hb3]; omega
    have n3 : ¬ 281474976710656 < Builtin.nextslicecap n 0 * Try.t56.bytes := by
      have : Builtin.nextslicecap n 0 = n := by unfold Builtin.nextslicecap; rw [if_pos (by omega)]
      rw [this, hb3]; omega
    have n4 : (0 : Int) ≤ n := by omega
    have n5 : (n : Int) ≤ 9223372036854775807 := by omega
    clear hb3
    go_enter Try.func82, Try.ntmps82
    go_wp2_with fail
    obtain ⟨C, hC⟩ : ∃ C, (Question.appendCap n 0 56).cut (w.tape w.drawn (Question.appendCap n 0 56)) = C := ⟨_, rfl⟩
    have hC1 : n ≤ C ∧ C ≤ maxLen := by
      rw [← hC]
      simp only [Question.cut, maxLen]
      have := Nat.mod_lt (w.tape w.drawn (Question.appendCap n 0 56)) (show 0 < 2 ^ 63 - n by omega)
      omega
    simp only [hC]
    go_ret
    have hnew := alloc_new w (.cells (Builtin.zeroCells #[.int .i64 0, .int .i64 0, .string ByteArray.empty, .int .i64 0, .int .i64 0] n ++ Builtin.zeroCells #[.int .i64 0, .int .i64 0, .string ByteArray.empty, .int .i64 0, .int .i64 0] (C - n)) 56)
    refine ⟨_, rfl, ⟨rfl, .inr ⟨_, C, _, rfl, Nat.le_refl _, hnew, Nat.zero_le _, hC1.2, ?_, by simp⟩⟩, bl_drew (bl_alloc (Below.refl _ _) _)⟩
    rw [Array.size_append]
    simp only [Builtin.zeroCells]
    simp
    omega
  · obtain rfl : n = 0 := by omega
    go_enter Try.func82, Try.ntmps82
    go_wp2_with fail
    go_ret
    exact ⟨_, rfl, ⟨rfl, .inl ⟨rfl, rfl⟩⟩, Below.refl _ _⟩
theorem code_one (c : CodeV) : ∀ u ∈ c.cells, u.oneCell' = true := by
  intro u hu
  simp only [CodeV.cells, List.mem_cons, List.not_mem_nil, or_false] at hu
  rcases hu with rfl | rfl | rfl | rfl | rfl <;> rfl
theorem codes_one (cs : List CodeV) : ∀ u ∈ codeCells cs, u.oneCell' = true := by
  intro u hu
  obtain ⟨c, _, hc⟩ := List.mem_flatMap.1 hu
  exact code_one c u hc
theorem CodesAt.reads {w : World} {A : Option Addr} {n c : Nat} {cs : List CodeV} (h : CodesAt w A n cs) (hnil : A = none → n = 0 ∧ c = 0) : Reads w 5 (.slice A n c) n (codeCells cs) := by
  refine ⟨by rw [codeCells_length, h.len], codes_one cs, ?_⟩
  cases A with
  | none =>
    obtain ⟨rfl, rfl⟩ := hnil rfl
    exact .inr ⟨rfl, rfl⟩
  | some ad =>
    refine .inl ⟨ad, c, rfl, fun j u hj => ?_⟩
    have hj2 : j < cs.length * 5 := by rw [← codeCells_length]; exact (List.getElem?_eq_some_iff.1 hj).1
    rw [h.len] at hj2
    obtain ⟨b, off, e, _, hc⟩ := h.cells (by omega)
    injection e with e
    subst e
    have h1 := hc (j / 5) (by omega) (j % 5) (by omega)
    have h2 := codeCells_at cs (j / 5) (by rw [h.len]; omega) (j % 5) (by omega)
    rw [show j / 5 * 5 + j % 5 = j by omega] at h2
    rw [show off + j / 5 * 5 + j % 5 = off + j by omega, ← h2, hj] at h1
    simpa [Addr.add_lit] using h1
end Go.Proofs.Ytecdnpdmjbcioaa
