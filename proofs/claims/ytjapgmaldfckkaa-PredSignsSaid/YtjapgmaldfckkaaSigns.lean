/- Chapter 5: PredSigns. -/
import Derived.Test.YtjapgmaldfckkaaAcc
namespace Go.Proofs.Ytjapgmaldfckkaa
open Go.RowKit
set_option linter.unusedVariables false
set_option linter.unusedSimpArgs false

theorem steps_wf {w : World} {a : Option Addr} {n : Nat} {l : List StepV} (h : RowAt kStep 32 w a n l) : ∀ s ∈ l, R64 s.2.2.2 := by
  intro s hs
  obtain ⟨i, hi, rfl⟩ := List.getElem_of_mem hs
  obtain ⟨b, off, x, cs, _, hx, hl, hR, _⟩ := h.later (i := i) (by rw [← h.len]; exact hi)
  rw [List.getElem?_eq_getElem hi] at hx
  injection hx with hx
  rw [hx]
  simp only [kStep, kPair, kInt] at hR
  exact hR.2.2.2.2.2.2.2
theorem rows_wf {w : World} {a : Option Addr} {n : Nat} {l : List (List Int)} (h : RowAt (kSlice (kInt .i64) 8) 24 w a n l) : ∀ s ∈ l, ∀ z ∈ s, R64 z := by
  intro s hs z hz
  obtain ⟨i, hi, rfl⟩ := List.getElem_of_mem hs
  obtain ⟨b, off, x, cs, _, hx, hl, ⟨a', m, cap, _, _, _, _, hr⟩, _⟩ := h.later (i := i) (by rw [← h.len]; exact hi)
  rw [List.getElem?_eq_getElem hi] at hx
  injection hx with hx
  rw [hx] at hz
  exact WalkArith.wf_i64 (hr.ints.wf z hz)

theorem held5g {w' : World} {b : Nat} {a0 a1 a2 a3 a4 : Value} {t : TypeId} (h : w'.heap[b]? = some (.cells #[a0, a1, a2, a3, a4] t)) : w'.cell? ⟨b, 0, none⟩ = some a0 ∧ w'.cell? ⟨b, 1, none⟩ = some a1 ∧ w'.cell? ⟨b, 2, none⟩ = some a2 ∧ w'.cell? ⟨b, 3, none⟩ = some a3 ∧ w'.cell? ⟨b, 4, none⟩ = some a4 :=
  ⟨cell_of_blk h 0, cell_of_blk h 1, cell_of_blk h 2, cell_of_blk h 3, cell_of_blk h 4⟩
set_option maxHeartbeats 4000000 in
set_option maxRecDepth 100000 in
theorem signs_law (a1 : Option Addr) (n1 cap1 : Nat) (l1 : List StepV) (b : Option Addr) (m cap : Nat) (ns : List (List Int)) (op : Int) (w : World) (hl1 : RowAt kStep 32 w a1 n1 l1) (hn : RowAt (kSlice (kInt .i64) 8) 24 w b m ns) (ho : -9223372036854775808 ≤ op ∧ op ≤ 9223372036854775807) :
    Calls Try.prog 4 #[.slice a1 n1 cap1, .slice b m cap, .int .i64 op] w fun e w' => e = .returned (.bool true) ∧ Below w.heap.size w w' := by
  have HL1 := Lib.hid hl1
  have HN := Lib.hid hn
  have hsm := setsOf_small ns
  clear hl1 hn
  go_enter Try.func4, Try.ntmps4
  go_wp2_with fail
  refine (awake_any _).mono ?_
  rintro e w1 ⟨rfl, hb01⟩
  go_wp2_with fail
  refine (sets_any (rows_below HN.out hb01)).mono ?_
  rintro e w2 ⟨A, c, vs, rfl, hs, hb2⟩
  have hb02 := bl_then hb01 hb2
  obtain ⟨ss, hss⟩ : ∃ ss, setsOf ns = ss := ⟨_, rfl⟩
  have HSS := Lib.hid hss
  rw [hss] at hs hsm
  obtain ⟨N, hN⟩ : ∃ N, ss.length = N := ⟨_, rfl⟩
  simp only [hss, hN]
  rw [hN] at hs hsm
  have hN4 := hsm.1
  have hSA := hs.at_ hN.symm
  have HSM := Lib.hid hsm.2
  have HS := Lib.hid hSA
  clear hs hss hN hSA hsm hb2 hb01
  go_wp2_with fail
  refine (codes_any (steps_below HL1.out hb02)).mono ?_
  rintro e w3 ⟨A1, c1, rfl, hown1, hb3⟩
  have hms : ∀ s ∈ ss, s.length ≤ 1000000 := fun s hs => Nat.le_trans (HSM.out s hs) (by decide)
  have HMS := Lib.hid hms
  have hcl1 : (codesOf l1).length ≤ 12 := by simp [codesOf]; omega
  go_wp2_with fail
  refine (eval_any (CodesAt.of_own hown1) (HS.out.below hb3) (by omega) (by omega) HMS.out).mono ?_
  rintro e w4 ⟨rfl, hb4⟩
  obtain ⟨n, ok, hE⟩ : ∃ n ok, evalRes ss (codesOf l1) = (n, ok) := ⟨_, _, rfl⟩
  have hnr := bounds_i64 (show R64 n by have := res_wf (ss := ss) (cs := codesOf l1) (by rw [← HSS.out]; exact setsOf_wf ns (rows_wf HN.out)) HMS.out (codesOf_wf l1 (steps_wf HL1.out)); rw [hE] at this; exact this)
  simp only [hE]
  have HE := Lib.hid hE
  clear hE
  clear hms
  have h4 : Acc w2 w4 (.slice A1 (codesOf l1).length c1) (codesOf l1).length (codesOf l1) := ⟨bl_then hb3 hb4, own_below hown1 hb4⟩
  obtain ⟨M, hM⟩ : ∃ M, (codesOf l1).length = M := ⟨_, rfl⟩
  simp only [hM]
  rw [hM] at h4 hcl1
  have H4 := Lib.hid h4
  have HM := Lib.hid hM
  clear h4 hM hown1 hb3 hb4
  have e5 := Acc.empty w4
  have H5 := Lib.hid e5
  clear e5
  go_wp2_with (first
    | (at_builtin; refine wpList_append_codes w4 rfl (.tmp 32) (.tmp 33) rfl H5.out rfl (Reads.codes (H4.out.below H5.out.bel)) rfl (by omega) M (by omega) ?_; intro A5 c5 w5 acc5)
    | (at_builtin; refine wpList_append_codes w4 rfl (.tmp 34) (.tmp 35) rfl acc5 rfl (Reads.codes (H4.out.below acc5.bel)) rfl (by omega) (M + M) (by omega) ?_; intro A6 c6 w6 acc6)
    | (at_builtin; refine wpList_append_codes w4 rfl (.tmp 36) (.tmp 38) rfl (acc6.alloc _) rfl (Reads.codes (Acc.lit w6 (n := 1) [⟨2, 0, ⟨#[]⟩, 0, 0⟩] rfl (by decide) rfl)) rfl (by omega) (M + M + 1) (by omega) ?_; intro A7 c7 w7 acc7))
  rw [List.nil_append] at acc7
  obtain ⟨z1, o1, hr1⟩ : ∃ z1 o1, evalRes ss (codesOf l1 ++ codesOf l1 ++ [⟨2, 0, ⟨#[]⟩, 0, 0⟩]) = (z1, o1) := ⟨_, _, rfl⟩
  have hf1 : ok = true → z1 = 0 ∧ o1 = true := fun h => by
    subst h
    rw [res_sub HE.out] at hr1
    injection hr1 with h1 h2
    exact ⟨h1.symm, h2.symm⟩
  refine (eval_any acc7.at_ (HS.out.below (bl_then H4.out.bel acc7.bel)) (by omega) (by omega) HMS.out).mono ?_
  rintro e w8 ⟨rfl, hb8⟩
  simp only [hr1]
  have h48 := H4.out.below (bl_then acc7.bel hb8)
  have H48 := Lib.hid h48
  have HF1 := Lib.hid hf1
  clear h48 hf1 hr1 acc5 acc6 acc7 hb8 H5
  have e5 := Acc.empty w8
  have H5 := Lib.hid e5
  clear e5
  go_wp2_with (first
    | (at_builtin; refine wpList_append_codes w8 rfl (.tmp 45) (.tmp 46) rfl H5.out rfl (Reads.codes (H48.out.below H5.out.bel)) rfl (by omega) M (by omega) ?_; intro A5 c5 w5 acc5)
    | (at_builtin; refine wpList_append_codes w8 rfl (.tmp 47) (.tmp 50) rfl (acc5.alloc _) rfl (Reads.codes (Acc.lit w5 (n := 2) [⟨9, 0, ⟨#[]⟩, 0, 0⟩, ⟨9, 0, ⟨#[]⟩, 0, 0⟩] rfl (by decide) rfl)) rfl (by omega) (M + 2) (by omega) ?_; intro A6 c6 w6 acc6))
  rw [List.nil_append] at acc6
  obtain ⟨z2, o2, hr2⟩ : ∃ z2 o2, evalRes ss (codesOf l1 ++ [⟨9, 0, ⟨#[]⟩, 0, 0⟩, ⟨9, 0, ⟨#[]⟩, 0, 0⟩]) = (z2, o2) := ⟨_, _, rfl⟩
  have hf2 : ok = true → z2 = n ∧ o2 = true := fun h => by
    subst h
    rw [res_neg HE.out hnr] at hr2
    injection hr2 with h1 h2
    exact ⟨h1.symm, h2.symm⟩
  refine (eval_any acc6.at_ (HS.out.below (bl_then H48.out.bel acc6.bel)) (by omega) (by omega) HMS.out).mono ?_
  rintro e w9 ⟨rfl, hb9⟩
  simp only [hr2]
  have h49 := H48.out.below (bl_then acc6.bel hb9)
  have hb29 := h49.bel
  have H49 := Lib.hid h49
  have HF2 := Lib.hid hf2
  clear h49 hf2 hr2 acc5 acc6 hb9 H5
  have hb09 := bl_then hb02 hb29
  cases ok
  · go_wp2_with fail
    go_ret
    exact ⟨rfl, hb09⟩
  · obtain ⟨rfl, rfl⟩ := HF1.out rfl
    obtain ⟨rfl, rfl⟩ := HF2.out rfl
    have t1 := Int.tmod_lt_of_pos op (show (0:Int) < 1000 by decide)
    have t2 := Int.lt_tmod_of_pos op (show (0:Int) < 1000 by decide)
    obtain ⟨K, hK⟩ : ∃ K, 1 + op.tmod 1000 % 1000 = K := ⟨_, rfl⟩
    have hk : 1 ≤ K ∧ K ≤ 1000 := by omega
    go_wp2_with fail
    try simp only [hK]
    have hq := alloc_new w9 (.cells #[.int .i64 6, .int .i64 K, .string { data := #[] }, .int .i64 0, .int .i64 0] 37)
    have H9b := H49.out.below (bl_alloc (Below.refl _ w9) (.cells #[.int .i64 6, .int .i64 K, .string { data := #[] }, .int .i64 0, .int .i64 0] 37))
    have hb010 := bl_alloc hb09 (.cells #[.int .i64 6, .int .i64 K, .string { data := #[] }, .int .i64 0, .int .i64 0] 37)
    generalize w9.alloc (.cells #[.int .i64 6, .int .i64 K, .string { data := #[] }, .int .i64 0, .int .i64 0] 37) = w10 at *
    generalize w9.heap.size = P at *
    obtain ⟨q0, q1, q2, q3, q4⟩ := held5g hq
    have lq := block_lt hq
    clear hK t1 t2
    have hB2 : ((w10.alloc (.cells #[] 37)).alloc (.cells #[.int .i64 6, .int .i64 K, .string { data := #[] }, .int .i64 0, .int .i64 0, .int .i64 3, .int .i64 0, .string { data := #[] }, .int .i64 0, .int .i64 0, .int .i64 6, .int .i64 K, .string { data := #[] }, .int .i64 0, .int .i64 0, .int .i64 4, .int .i64 0, .string { data := #[] }, .int .i64 0, .int .i64 0] 37)).drew.heap[w10.heap.size + 1]? = some (.cells #[.int .i64 6, .int .i64 K, .string { data := #[] }, .int .i64 0, .int .i64 0, .int .i64 3, .int .i64 0, .string { data := #[] }, .int .i64 0, .int .i64 0, .int .i64 6, .int .i64 K, .string { data := #[] }, .int .i64 0, .int .i64 0, .int .i64 4, .int .i64 0, .string { data := #[] }, .int .i64 0, .int .i64 0] 37) := by
      have := alloc_new (w10.alloc (.cells #[] 37)) (.cells #[.int .i64 6, .int .i64 K, .string { data := #[] }, .int .i64 0, .int .i64 0, .int .i64 3, .int .i64 0, .string { data := #[] }, .int .i64 0, .int .i64 0, .int .i64 6, .int .i64 K, .string { data := #[] }, .int .i64 0, .int .i64 0, .int .i64 4, .int .i64 0, .string { data := #[] }, .int .i64 0, .int .i64 0] 37)
      rw [show (w10.alloc (.cells #[] 37)).heap.size = w10.heap.size + 1 by simp] at this
      exact this
    have hB3 : ((w10.alloc (.cells #[.int .i64 6, .int .i64 K, .string { data := #[] }, .int .i64 0, .int .i64 0, .int .i64 3, .int .i64 0, .string { data := #[] }, .int .i64 0, .int .i64 0, .int .i64 6, .int .i64 K, .string { data := #[] }, .int .i64 0, .int .i64 0, .int .i64 4, .int .i64 0, .string { data := #[] }, .int .i64 0, .int .i64 0] 37)).alloc (.cells #[] 37)).drew.heap[w10.heap.size]? = some (.cells #[.int .i64 6, .int .i64 K, .string { data := #[] }, .int .i64 0, .int .i64 0, .int .i64 3, .int .i64 0, .string { data := #[] }, .int .i64 0, .int .i64 0, .int .i64 6, .int .i64 K, .string { data := #[] }, .int .i64 0, .int .i64 0, .int .i64 4, .int .i64 0, .string { data := #[] }, .int .i64 0, .int .i64 0] 37) := alloc_old (alloc_new w10 _) _
    have B0 : Below w10.heap.size w10 w10 := Below.refl _ _
    obtain ⟨x, hx, hxn⟩ := res_mul (k := K) HE.out hk
    go_region_held3 (fun w' => w'.cell? ⟨P, 0, none⟩ = some (.int .i64 6) ∧ w'.cell? ⟨P, 1, none⟩ = some (.int .i64 K) ∧ w'.cell? ⟨P, 2, none⟩ = some (.string { data := #[] }) ∧ w'.cell? ⟨P, 3, none⟩ = some (.int .i64 0) ∧ w'.cell? ⟨P, 4, none⟩ = some (.int .i64 0)) (first | exact held5g hq7 | exact held5g hq6 | exact held5g (alloc_old hq5 _) | exact held5g hq5 | exact held5g (alloc_old (alloc_old hq _) _) | exact held5g (alloc_old hq _) | exact held5g hq) (first
      | (have acc6' := acc6; go_at_call 10; refine (eval_any acc6.at_ (HS.out.below (bl_then H9b.bel acc6.bel)) (by omega) (by omega) HMS.out).mono ?_; rintro e w7 ⟨rfl, hb7⟩; have hbz := bl_then (bl_then hb010 acc6.bel) hb7; have hq7 := (hb7.block _ (block_lt hq6)).trans hq6; simp only [hx])
      | (have acc5' := acc5; refine step_append_codes w10 rfl (.tmp 69) (.tmp 74) rfl (by first | exact acc5 | exact acc5.alloc _) rfl (ds := [⟨6, K, ⟨#[]⟩, 0, 0⟩, ⟨3, 0, ⟨#[]⟩, 0, 0⟩, ⟨6, K, ⟨#[]⟩, 0, 0⟩, ⟨4, 0, ⟨#[]⟩, 0, 0⟩]) (by first | exact Reads.lit hB5 [⟨6, K, ⟨#[]⟩, 0, 0⟩, ⟨3, 0, ⟨#[]⟩, 0, 0⟩, ⟨6, K, ⟨#[]⟩, 0, 0⟩, ⟨4, 0, ⟨#[]⟩, 0, 0⟩] (n := 4) rfl rfl | exact Reads.codes (Acc.lit w5 (n := 4) [⟨6, K, ⟨#[]⟩, 0, 0⟩, ⟨3, 0, ⟨#[]⟩, 0, 0⟩, ⟨6, K, ⟨#[]⟩, 0, 0⟩, ⟨4, 0, ⟨#[]⟩, 0, 0⟩] rfl (by decide) rfl)) rfl (by omega) (M + 4) (by omega) ?_; intro A6 c6 w6 acc6 gr6; rw [List.nil_append] at acc6; have hq6 := (acc6.bel.block _ lq).trans hq)
      | (refine step_append_codes w10 rfl (.tmp 67) (.tmp 68) rfl (by first | exact (Acc.empty' w10 rfl).drew | exact ((Acc.empty' w10 rfl).alloc _).drew | exact ((Acc.empty' (w10.alloc _) (by simp)).later (bl_alloc B0 _)).drew) rfl (ds := codesOf l1) (by first | exact Reads.codes (H9b.below (bl_drew (bl_alloc B0 _))) | exact Reads.codes (H9b.below (bl_drew (bl_alloc (bl_alloc B0 _) _)))) rfl (by omega) M (by omega) ?_; intro A5 c5 w5 acc5 gr5; have hq5 := (acc5.bel.block _ lq).trans hq; (first | (have hB5 := grown_keeps (g := w10.heap.size) hB2 gr5 (by omega)) | (have hB5 := grown_keeps (g := w10.heap.size + 1) hB3 gr5 (by omega)) | skip)))
    all_goals
      by_cases c1 : z2 > 1125899906842624
      · go_wp2
        go_ret
        exact ⟨rfl, hbz⟩
      by_cases c2 : z2 < -1125899906842624
      · go_wp2
        go_ret
        exact ⟨rfl, hbz⟩
      · have hxz := hxn (by omega)
        go_wp2
        go_ret
        exact ⟨rfl, hbz⟩
end Go.Proofs.Ytjapgmaldfckkaa
