/- The walk of the document's Eval. PRINTED by wip/tools/revalgen.py. -/
import Derived.Test.YtecdnpdmjbcioaaRuC
import Derived.Deep.RegionHeld3
namespace Go.Proofs.Ytecdnpdmjbcioaa
open Go.RowKit
set_option linter.unusedVariables false
set_option linter.unusedSimpArgs false

theorem wrap_neg (x : Int) : IntKind.i64.wrap (-x) = wrap64 (0 - x) := by rw [IntWalk.i64_left, Int.zero_sub]

set_option maxHeartbeats 8000000 in
set_option maxRecDepth 100000 in
theorem reval_any {w : World} {A B : Option Addr} {n c m c' : Nat} {cs : List CodeV} {ss : List (List Ev)} (hc : CodesAt w A n cs) (hs : SetsAt w B m ss) (hn : n ≤ 100000) (hm : m ≤ 1000000) (hms : ∀ s ∈ ss, s.length ≤ 1000000) :
    Calls Try.prog 57 #[.slice A n c, .slice B m c'] w fun e w' => e = .returned (.agg #[.int .i64 (evalRes ss cs).1, .bool (evalRes ss cs).2]) ∧ Below w.heap.size w w' := by
  have hb0 : Below w.heap.size w (w.alloc (.cells #[.int .i64 0, .bool false] 106)) := bl_alloc (Below.refl _ w) _
  have hz0 := alloc_new w (.cells #[.int .i64 0, .bool false] 106)
  have HC := Lib.hid (hc.below hb0)
  have HS := Lib.hid (hs.below hb0)
  have HM := Lib.hid hms
  have HB0 := Lib.hid hb0
  have HZ0 := Lib.hid hz0
  clear hc hs hms hb0 hz0
  go_enter Try.func57, Try.ntmps57
  go_wp2_with fail
  obtain ⟨Z, hZ⟩ : ∃ Z, Z = w.heap.size := ⟨_, rfl⟩
  have HZw : Hid (w.heap.size ≤ Z) := Lib.hid (by omega)
  rw [← hZ] at HZ0
  try rw [← hZ]
  clear hZ
  generalize w.alloc (.cells #[.int .i64 0, .bool false] 106) = w1 at *
  go_loopw [5, 6] (fun v i wr => ∃ (K L : Nat) (st : List Int) (A1 : Option Addr) (c1 : Nat), K ≤ n ∧ v = .slice A1 L c1 ∧ i = .int .i64 K ∧ evalRun ss (cs.take K) = (st, true) ∧ IAcc w1 wr (.slice A1 L c1) L st) (fun _ i _ => n - (intOf i).toNat)
  case atStart => exact ⟨0, 0, [], none, 0, Nat.zero_le _, rfl, rfl, rfl, Below.refl _ _, rfl, .inl ⟨rfl, rfl⟩⟩
  case round =>
    obtain ⟨K, L, st, A1, c1, hK, rfl, rfl, hrun, hacc⟩ := hrel
    have HAC := Lib.hid hacc
    have HRUN := Lib.hid hrun
    have hLL := hacc.len
    have hlen : L ≤ K := by
      rw [← hLL]
      have := evalRun_length ss cs K (by rw [HC.out.len]; exact hK)
      rw [hrun] at this
      exact this
    have HLL := Lib.hid hLL
    clear hLL
    by_cases hlt : K < n
    · have hlc := HC.out.len
      have hsucc := evalRun_succ ss cs K (by omega)
      rw [hrun] at hsucc
      have hb := hacc.bel
      clear hlc
      obtain ⟨b1, o1, rfl, hb1, hc1⟩ := (HC.out.below hb).cells (by omega)
      have hx := hc1 K hlt
      have x0 := hx 0 (by omega)
      have x1 := hx 1 (by omega)
      have x2 := hx 2 (by omega)
      have x3 := hx 3 (by omega)
      have x4 := hx 4 (by omega)
      generalize cs.getD K CodeV.zero = cv at *
      obtain ⟨op, cn, var, field, at_⟩ := cv
      simp only [CodeV.cells, List.getElem?_cons_zero, List.getElem?_cons_succ, Nat.add_zero] at x0 x1 x2 x3 x4
      have HU := Lib.hid hsucc
      have hK0 : (K : Int) < n := by omega
      clear hx hc1 hsucc hrun hacc hb
      go_wp2_with fail
      have hz1 := (HAC.out.bel.block _ (block_lt HZ0.out)).trans HZ0.out
      have hzlt := block_lt hz1
      have HA2 := Lib.hid (HAC.out.alloc (.cells #[.int .i64 op, .int .i64 cn, .string var, .int .i64 field, .int .i64 at_] 56))
      have HOB := Lib.hid HAC.out.apart
      have HZ2 := Lib.hid (alloc_old hz1 (.cells #[.int .i64 op, .int .i64 cn, .string var, .int .i64 field, .int .i64 at_] 56))
      have hcb : (wr.alloc (.cells #[.int .i64 op, .int .i64 cn, .string var, .int .i64 field, .int .i64 at_] 56)).heap[wr.heap.size]? = some (.cells [.int .i64 op, .int .i64 cn, .string var, .int .i64 field, .int .i64 at_].toArray 56 (0, 0)) := alloc_new wr _
      have HS2 := Lib.hid (HS.out.below (bl_alloc HAC.out.bel (.cells #[.int .i64 op, .int .i64 cn, .string var, .int .i64 field, .int .i64 at_] 56)))
      obtain ⟨cb, hcbe⟩ : ∃ cb, wr.heap.size = cb := ⟨_, rfl⟩
      rw [hcbe] at hcb
      rw [hcbe]
      have HZC : Hid (Z < cb) := Lib.hid (by rw [← hcbe]; exact hzlt)
      rw [hcbe] at HOB
      generalize wr.alloc (.cells #[.int .i64 op, .int .i64 cn, .string var, .int .i64 field, .int .i64 at_] 56) = w2 at *
      have HBW := Lib.hid (bl_then HB0.out HA2.out.bel)
      have HCB := Lib.hid hcb
      clear hcbe hz1 hzlt x0 x1 x2 x3 x4 hb1 HAC
      refine (rset_in HS.out HA2.out.bel at_ hm).mono ?_
      rintro e w3 ⟨A3, c3, rfl, hev, rfl⟩
      have hmany : (setOf ss at_).length ≤ 1000000 := by
        unfold setOf
        split
        · rw [List.getD_eq_getElem?_getD]
          by_cases hh : at_.toNat < ss.length
          · rw [List.getElem?_eq_getElem hh]; exact HM.out _ (List.getElem_mem _)
          · rw [List.getElem?_eq_none (by omega)]; simp
        · simp
      obtain ⟨many, hmany0⟩ : ∃ many, (setOf ss at_).length = many := ⟨_, rfl⟩
      rw [hmany0] at hmany hev
      rw [hmany0]
      have HMY := Lib.hid hmany0
      have HEV := Lib.hid hev
      clear hmany0 hev
      have f0 : w2.cell? ⟨cb, 0, none⟩ = some (.int .i64 op) := cell_of_blk hcb 0
      have f1 : w2.cell? ⟨cb, 1, none⟩ = some (.int .i64 cn) := cell_of_blk hcb 1
      have f3 : w2.cell? ⟨cb, 3, none⟩ = some (.int .i64 field) := cell_of_blk hcb 3
      have fr0 : w2.frozen? ⟨Z, 0, none⟩ = false := free_of_blk (cs := [.int .i64 0, .bool false]) HZ2.out 0
      have fr1 : w2.frozen? ⟨Z, 1, none⟩ = false := free_of_blk (cs := [.int .i64 0, .bool false]) HZ2.out 1
      have y0 : w2.cell? ⟨Z, 0, none⟩ = some (.int .i64 0) := cell_of_blk (cs := [.int .i64 0, .bool false]) HZ2.out 0
      have y1 : w2.cell? ⟨Z, 1, none⟩ = some (.bool false) := cell_of_blk (cs := [.int .i64 0, .bool false]) HZ2.out 1
      clear hcb
      by_cases h6 : op = 6
      · subst h6
        have hsz : w1.heap.size ≤ (w2.alloc (.cells #[.int .i64 cn] 2)).heap.size := (HA2.out.alloc _).bel.size
        go_wp2_with (at_builtin; go_loud (refine wpList_append_ints w1 rfl (.tmp 61) (.tmp 64) rfl (HA2.out.alloc _) rfl (ds := [cn]) (reads_one (alloc_new _ _)) rfl (by omega) (L + 1) rfl ?_); intro A8 c8 w8 hac8)
        have hE : evalRun ss (cs.take (K + 1)) = (st ++ [cn], true) := by rw [HU.out]; exact evalOne_num rfl
        have HE := Lib.hid hE
        have HAC := Lib.hid (hac8)
        clear hE hac8
        go_wp2_with fail
        go_roundw
        case rel => exact ⟨K + 1, L + 1, st ++ [cn], _, _, by omega, rfl, by simp, HE.out, HAC.out⟩
        case measure => simp [intOf]; omega
      have k6 : (op == 6) = false := by simpa using h6
      by_cases h8 : op = 8
      · subst h8
        go_wp2_with (at_builtin; go_loud (refine wpList_append_ints w1 rfl (.tmp 68) (.tmp 71) rfl (HA2.out.alloc _) rfl (ds := [(many : Int)]) (reads_one (alloc_new _ _)) rfl (by omega) (L + 1) rfl ?_); intro A8 c8 w8 hac8)
        have hE : evalRun ss (cs.take (K + 1)) = (st ++ [(many : Int)], true) := by rw [HU.out]; exact (by rw [evalOne_count rfl, HMY.out])
        have HE := Lib.hid hE
        have HAC := Lib.hid hac8
        clear hE hac8
        go_wp2_with fail
        go_roundw
        case rel => exact ⟨K + 1, L + 1, st ++ [(many : Int)], _, _, by omega, rfl, by simp, HE.out, HAC.out⟩
        case measure => simp [intOf]; omega
      have k8 : (op == 8) = false := by simpa using h8
      by_cases h7 : op = 7
      · subst h7
        by_cases hg : 0 < many ∧ 0 ≤ field ∧ field < 4
        · obtain ⟨g1, g2, g3⟩ := hg
          obtain ⟨M1, rfl⟩ : ∃ M1, many = M1 + 1 := ⟨many - 1, by omega⟩
          obtain ⟨F, rfl⟩ : ∃ F : Nat, field = F := ⟨field.toNat, by omega⟩
          have hF : F < 4 := by omega
          have d1 : ((M1 : Int) + 1 == 0) = false := by simp; omega
          have d2 : decide ((F : Int) < 0) = false := decide_eq_false (by omega)
          have d3 : decide ((3 : Int) < F) = false := decide_eq_false (by omega)
          have d4 : (0 : Int) ≤ F := by omega
          have d5 : (F : Int) < 4 := by omega
          obtain ⟨eb, eo, rfl, heb, hec⟩ := HEV.out.cells (by omega)
          have hnum : w1.cell? ⟨eb, eo + M1 * 6 + 2 + F, none⟩ = some (.int .i64 ((lastOf ss at_).num F)) := by
            have := hec M1 (by omega) (2 + F) (by omega)
            rw [← Nat.add_assoc] at this
            rw [this]
            have hl : (setOf ss at_).getD M1 Ev.zero = lastOf ss at_ := by
              unfold lastOf
              rw [List.getLastD_eq_getLast?, List.getLast?_eq_getElem?, HMY.out, List.getD_eq_getElem?_getD]
              rfl
            rw [hl]
            have : F = 0 ∨ F = 1 ∨ F = 2 ∨ F = 3 := by omega
            rcases this with rfl | rfl | rfl | rfl <;> rfl
          have hwM : IntKind.i64.wrap (M1 : Int) = M1 := IntWalk.i64_in _ (by omega)
          have hM2 : (M1 : Int) < M1 + 1 := by omega
          clear hec
          have HSF : Hid (∀ W, W.heap[cb]? = w2.heap[cb]? → Below w1.heap.size w1 W → W.cell? ⟨cb, 3, none⟩ = some (.int .i64 F) ∧ W.cell? ⟨eb, eo + M1 * 6 + 2 + F, none⟩ = some (.int .i64 ((lastOf ss at_).num F))) := Lib.hid fun W h1 hW => ⟨cell_of_blk (h1.trans HCB.out) 3, (hW.cell (p := ⟨eb, eo + M1 * 6 + 2 + F, none⟩) heb).trans hnum⟩
          have hlt2 := block_lt HCB.out
          clear hnum
          go_wp2_with fail
          go_region_held3 (fun w' => w'.cell? ⟨cb, 3, none⟩ = some (.int .i64 F) ∧ w'.cell? ⟨eb, eo + M1 * 6 + 2 + F, none⟩ = some (.int .i64 ((lastOf ss at_).num F)))
            (first | exact HSF.out _ hbl8 hac8.bel | exact HSF.out _ ((bl_alloc (Below.refl _ w2) _).block _ hlt2) (bl_drew (bl_alloc HA2.out.bel _)) | exact HSF.out _ rfl (bl_drew HA2.out.bel))
            (first
              | (go_loud (refine step_append_ints w1 rfl (.tmp 89) (.tmp 100) rfl (HA2.out.alloc _).drew rfl (ds := [(lastOf ss at_).num F]) (reads_one (alloc_new w2 _)) rfl (by omega) (L + 1) rfl ?_); intro A8 c8 w8 hac8 gr8; have hbl8 := (gr8.block cb (by simp; omega) (fun h => by have := (HOB.out cb h.symm).2; omega)).trans ((bl_alloc (Below.refl _ w2) (.cells #[.int .i64 ((lastOf ss at_).num F)] 2)).block _ hlt2)))
          all_goals
            have hE : evalRun ss (cs.take (K + 1)) = (st ++ [(lastOf ss at_).num F], true) := by rw [HU.out]; exact (evalOne_field rfl (by rw [HMY.out]; omega) (by show (0 : Int) ≤ F; omega) (by show (F : Int) < 4; omega))
            have HE := Lib.hid hE
            have HAC := Lib.hid hac8
            clear hE hac8
            go_wp2_with fail
            go_roundw
            case rel => exact ⟨K + 1, L + 1, st ++ [(lastOf ss at_).num F], _, _, by omega, rfl, by simp, HE.out, HAC.out⟩
            case measure => simp [intOf]; omega
        · have hcase : many = 0 ∨ (0 < many ∧ field < 0) ∨ (0 < many ∧ 0 ≤ field ∧ 3 < field) := by omega
          rcases hcase with hm0 | ⟨hm0, hm1⟩ | ⟨hm0, hm1, hm2⟩
          · have d1 : ((many : Int) == 0) = true := by simp [hm0]
            have hE : (evalRun ss (cs.take (K + 1))).2 = false := by rw [HU.out]; exact (evalOne_nofield rfl (by rw [HMY.out]; exact hg))
            have HE := Lib.hid hE
            clear hE
            go_wp2_with fail
            refine bodyPost_ret (v := .agg #[.int .i64 0, .bool false]) (results_cell (p := 4) rfl _ _ Z 106 _ (0, 0) _ rfl (setCell_same (i := 1) (setCell_same (cs := [.int .i64 0, .bool false]) (i := 0) HZ2.out (.int .i64 0)) (.bool false)) Try.underlying106 rfl numInfo) rfl ⟨by rw [evalRes_bad HE.out], bl_set (bl_set HBW.out _ _ HZw.out) _ _ HZw.out⟩
          · have d1 : ((many : Int) == 0) = false := by simp; omega
            have d2 : decide (field < 0) = true := decide_eq_true hm1
            clear hm1
            have hE : (evalRun ss (cs.take (K + 1))).2 = false := by rw [HU.out]; exact (evalOne_nofield rfl (by rw [HMY.out]; exact hg))
            have HE := Lib.hid hE
            clear hE
            go_wp2_with fail
            refine bodyPost_ret (v := .agg #[.int .i64 0, .bool false]) (results_cell (p := 4) rfl _ _ Z 106 _ (0, 0) _ rfl (setCell_same (i := 1) (setCell_same (cs := [.int .i64 0, .bool false]) (i := 0) HZ2.out (.int .i64 0)) (.bool false)) Try.underlying106 rfl numInfo) rfl ⟨by rw [evalRes_bad HE.out], bl_set (bl_set HBW.out _ _ HZw.out) _ _ HZw.out⟩
          · have d1 : ((many : Int) == 0) = false := by simp; omega
            have d2 : decide (field < 0) = false := decide_eq_false (by omega)
            have d3 : decide ((3 : Int) < field) = true := decide_eq_true hm2
            clear hm1 hm2
            have hE : (evalRun ss (cs.take (K + 1))).2 = false := by rw [HU.out]; exact (evalOne_nofield rfl (by rw [HMY.out]; exact hg))
            have HE := Lib.hid hE
            clear hE
            go_wp2_with fail
            refine bodyPost_ret (v := .agg #[.int .i64 0, .bool false]) (results_cell (p := 4) rfl _ _ Z 106 _ (0, 0) _ rfl (setCell_same (i := 1) (setCell_same (cs := [.int .i64 0, .bool false]) (i := 0) HZ2.out (.int .i64 0)) (.bool false)) Try.underlying106 rfl numInfo) rfl ⟨by rw [evalRes_bad HE.out], bl_set (bl_set HBW.out _ _ HZw.out) _ _ HZw.out⟩
      have k7 : (op == 7) = false := by simpa using h7
      by_cases h9 : op = 9
      · subst h9
        by_cases hL0 : L = 0
        · have d1 : decide ((L : Int) < 1) = true := decide_eq_true (by omega)
          obtain rfl : st = [] := List.eq_nil_of_length_eq_zero (by rw [HLL.out]; exact hL0)
          have hE : (evalRun ss (cs.take (K + 1))).2 = false := by rw [HU.out]; exact (evalOne_neg0 rfl)
          have HE := Lib.hid hE
          clear hE
          go_wp2_with fail
          refine bodyPost_ret (v := .agg #[.int .i64 0, .bool false]) (results_cell (p := 4) rfl _ _ Z 106 _ (0, 0) _ rfl (setCell_same (i := 1) (setCell_same (cs := [.int .i64 0, .bool false]) (i := 0) HZ2.out (.int .i64 0)) (.bool false)) Try.underlying106 rfl numInfo) rfl ⟨by rw [evalRes_bad HE.out], bl_set (bl_set HBW.out _ _ HZw.out) _ _ HZw.out⟩
        · obtain ⟨pre, x, rfl⟩ : ∃ pre x, st = pre ++ [x] := by
            rcases List.eq_nil_or_concat st with h | ⟨pre, x, h⟩
            · rw [h] at HLL; exact absurd HLL.out.symm hL0
            · exact ⟨pre, x, by rw [h, List.concat_eq_append]⟩
          obtain ⟨M, hM⟩ : ∃ M, pre.length = M := ⟨_, rfl⟩
          obtain rfl : L = M + 1 := by have := HLL.out; rw [List.length_append, hM] at this; exact this.symm
          obtain ⟨g, rfl, hgc, hg1, hgl, hcell⟩ := HA2.out.at_ (by omega)
          have HSS : Hid (∀ W, Below w2.heap.size w2 W → W.cell? ⟨g, M, none⟩ = some (.int .i64 x)) := Lib.hid fun W hW => (hW.cell (p := ⟨g, M, none⟩) hgl).trans (hcell M x (by rw [← hM]; simp))
          have HRD : Hid (∀ W, Below w2.heap.size w2 W → Reads W 1 (.slice (some ⟨g, 0, none⟩) M c1) M (ints pre)) := Lib.hid fun W hW => by
            have := ((HA2.out.take M (by omega)).below hW).reads
            rwa [show (pre ++ [x]).take M = pre by rw [← hM]; simp] at this
          have iM1 : (M : Int) ≤ c1 := by omega
          have iM2 : (M : Int) < M + 1 := by omega
          have d1 : decide ((M : Int) + 1 < 1) = false := decide_eq_false (by omega)
          have hwM : IntKind.i64.wrap (M : Int) = M := IntWalk.i64_in _ (by omega)
          have HB2a : Hid (((((w2.alloc (.cells #[] 2)).alloc (.cells #[.int .i64 (IntKind.i64.wrap (-x))] 2)).drew).heap[w2.heap.size + 1]? = some (.cells #[.int .i64 (IntKind.i64.wrap (-x))] 2 (0, 0)))) := Lib.hid (alloc_new' (w2.alloc (.cells #[] 2)) _ _ (by simp))
          have HB2b : Hid (((((w2.alloc (.cells #[.int .i64 (IntKind.i64.wrap (-x))] 2)).alloc (.cells #[] 2)).drew).heap[w2.heap.size]? = some (.cells #[.int .i64 (IntKind.i64.wrap (-x))] 2 (0, 0)))) := Lib.hid (alloc_old (alloc_new w2 _) _)
          have s0 := HSS.out _ (Below.refl _ _)
          clear hcell hM
          go_wp2_with fail
          go_region_held3 (fun w' => w'.cell? ⟨g, M, none⟩ = some (.int .i64 x))
            (first | exact hs6 | exact HSS.out _ (bl_alloc acc5.bel _) | exact hs5 | exact HSS.out _ (bl_drew (bl_alloc (bl_alloc (Below.refl _ _) _) _)) | exact HSS.out _ (bl_drew (bl_alloc (Below.refl _ _) _)) | exact HSS.out _ (bl_drew (Below.refl _ _)))
            (first
              | (have acc5' := acc5; refine step_append_ints w2 rfl (.tmp 112) (.tmp 119) rfl (by first | exact acc5 | exact acc5.alloc _) rfl (ds := [IntKind.i64.wrap (-x)]) (by first | exact reads_one hB5 | exact reads_one (alloc_new _ _)) rfl (by omega) (M + 1) rfl ?_; intro A6 c6 w6 acc6 gr6; have hs6 := HSS.out _ acc6.bel)
              | (go_loud (refine step_append_ints w2 rfl (.tmp 107) (.tmp 111) rfl (by first | exact (IAcc.empty' w2 rfl).drew | exact ((IAcc.empty' w2 rfl).alloc _).drew | exact ((IAcc.empty' (w2.alloc _) (by simp)).later (bl_alloc (Below.refl _ _) _)).drew) rfl (ds := pre) (by first | exact HRD.out _ (bl_drew (bl_alloc (Below.refl _ _) _)) | exact HRD.out _ (bl_drew (bl_alloc (bl_alloc (Below.refl _ _) _) _))) rfl (by omega) M (by omega) ?_); intro A5 c5 w5 acc5 gr5; rw [List.nil_append] at acc5; have hs5 := HSS.out _ acc5.bel; (first | (have hB5 := grown_keeps (g := w2.heap.size) (HB2a.out) gr5 (by omega)) | (have hB5 := grown_keeps (g := w2.heap.size + 1) (HB2b.out) gr5 (by omega)) | skip)))
          all_goals
            have hfin := acc6.later HA2.out.bel
            have hE : evalRun ss (cs.take (K + 1)) = (pre ++ [IntKind.i64.wrap (-x)], true) := by rw [HU.out]; exact (by rw [wrap_neg x]; exact evalOne_neg rfl)
            have HE := Lib.hid hE
            have HAC := Lib.hid hfin
            clear hE hfin
            go_wp2_with fail
            go_roundw
            case rel => exact ⟨K + 1, M + 1, pre ++ [IntKind.i64.wrap (-x)], _, _, by omega, rfl, by simp, HE.out, HAC.out⟩
            case measure => simp [intOf]; omega
      have k9 : (op == 9) = false := by simpa using h9
      by_cases hL2 : L < 2
      · have d1 : decide ((L : Int) < 2) = true := decide_eq_true (by omega)
        have hE : (evalRun ss (cs.take (K + 1))).2 = false := by rw [HU.out]; exact (by rw [evalOne_do (c := ⟨op, cn, var, field, at_⟩) h6 h7 h8 h9]; exact evalDo_few (by rw [HLL.out]; exact hL2))
        have HE := Lib.hid hE
        clear hE
        go_wp2_with fail
        refine bodyPost_ret (v := .agg #[.int .i64 0, .bool false]) (results_cell (p := 4) rfl _ _ Z 106 _ (0, 0) _ rfl (setCell_same (i := 1) (setCell_same (cs := [.int .i64 0, .bool false]) (i := 0) HZ2.out (.int .i64 0)) (.bool false)) Try.underlying106 rfl numInfo) rfl ⟨by rw [evalRes_bad HE.out], bl_set (bl_set HBW.out _ _ HZw.out) _ _ HZw.out⟩
      · obtain ⟨pre, a, b, rfl⟩ : ∃ pre a b, st = pre ++ [a, b] := by
          rcases List.eq_nil_or_concat st with h | ⟨q, b, h⟩
          · rw [h] at HLL; exact absurd (show L < 2 by have := HLL.out; simp at this; omega) hL2
          · rcases List.eq_nil_or_concat q with h3 | ⟨pre, a, h3⟩
            · rw [h, h3] at HLL; exact absurd (show L < 2 by have := HLL.out; simp at this; omega) hL2
            · exact ⟨pre, a, b, by rw [h, h3]; simp⟩
        obtain ⟨M, hM⟩ : ∃ M, pre.length = M := ⟨_, rfl⟩
        obtain rfl : L = M + 2 := by have := HLL.out; rw [List.length_append, hM] at this; exact this.symm
        obtain ⟨g, rfl, hgc, hg1, hgl, hcell⟩ := HA2.out.at_ (by omega)
        have HSA : Hid (∀ W, Below w2.heap.size w2 W → W.cell? ⟨cb, 0, none⟩ = some (.int .i64 op) ∧ W.cell? ⟨g, M, none⟩ = some (.int .i64 a) ∧ W.cell? ⟨g, M + 1, none⟩ = some (.int .i64 b)) := Lib.hid fun W hW => ⟨cell_of_blk ((hW.block _ (block_lt HCB.out)).trans HCB.out) 0, (hW.cell (p := ⟨g, M, none⟩) hgl).trans (hcell M a (by rw [← hM]; simp)), (hW.cell (p := ⟨g, M + 1, none⟩) hgl).trans (hcell (M + 1) b (by rw [← hM]; simp))⟩
        have HRD0 : Hid (∀ W, Below w2.heap.size w2 W → Reads W 1 (.slice (some ⟨g, 0, none⟩) M c1) M (ints pre)) := Lib.hid fun W hW => by
          have := ((HA2.out.take M (by omega)).below hW).reads
          rwa [show (pre ++ [a, b]).take M = pre by rw [← hM]; simp] at this
        have iM1 : (M : Int) ≤ c1 := by omega
        have iM2 : (M : Int) < M + 2 := by omega
        have iM3 : (M : Int) + 1 < M + 2 := by omega
        have iM4 : (0 : Int) ≤ (M : Int) + 1 := by omega
        have he1 : (M : Int) + 2 - 1 = M + 1 := by omega
        have hn1 : ((M : Int) + 1).toNat = M + 1 := by omega
        have d1 : decide ((M : Int) + 2 < 2) = false := decide_eq_false (by omega)
        have hwM : IntKind.i64.wrap (M : Int) = M := IntWalk.i64_in _ (by omega)
        have hwM1 : IntKind.i64.wrap ((M : Int) + 1) = M + 1 := IntWalk.i64_in _ (by omega)
        clear hcell hM
        go_upto_region 11 with fail
        go_cut [10] (fun v wx => ∃ D, v = .pointer (some ⟨D, 0, none⟩) ∧ wx.heap[D]? = some (.cells #[.int .i64 (doNum op a b).1, .bool (doNum op a b).2] 106 (0, 0)) ∧ Below w2.heap.size w2 wx)
        case first =>
          go_wp2_with fail
          go_region_held3 (fun W => W.cell? ⟨cb, 0, none⟩ = some (.int .i64 op) ∧ W.cell? ⟨g, M, none⟩ = some (.int .i64 a) ∧ W.cell? ⟨g, M + 1, none⟩ = some (.int .i64 b))
            (first | exact HSA.out _ hb4' | exact HSA.out _ (bl_alloc hb4' _) | exact HSA.out _ (bl_set (bl_set hb4' ⟨w2.heap.size, 0, none⟩ _ (Nat.le_refl _)) ⟨w2.heap.size, 1, none⟩ _ (Nat.le_refl _)) | exact HSA.out _ (bl_drew (bl_alloc (Below.refl _ _) _)) | exact HSA.out _ (bl_drew (Below.refl _ _)))
            (first | (go_at_call 74; refine (rdo_any _ _ _ _).mono ?_; rintro e w4 ⟨rfl, hb4⟩; have hb4' : Below w2.heap.size w2 w4 := (by first | exact bl_then (bl_drew (Below.refl _ w2)) hb4 | exact bl_then (bl_drew (bl_alloc (Below.refl _ w2) _)) hb4); (first | (have hno := bl_then (bl_drew (Below.refl _ w2)) hb4) | (go_loud (have hD := (hb4.block w2.heap.size (by simp)).trans (show ((w2.alloc (.cells #[.int .i64 0, .bool false] 106)).drew).heap[w2.heap.size]? = some (.cells #[.int .i64 0, .bool false] 106 (0, 0)) from alloc_new w2 _)); have fD0 := free_of_blk (cs := [.int .i64 0, .bool false]) hD 0; have fD1 := free_of_blk (cs := [.int .i64 0, .bool false]) hD 1; have cD0 := cell_of_blk (cs := [.int .i64 0, .bool false]) hD 0; have cD1 := cell_of_blk (cs := [.int .i64 0, .bool false]) hD 1; have hlD := block_lt hD))))
          all_goals
            go_wp2_with fail
            go_meet
          all_goals
            first
              | exact ⟨_, rfl, setCell_same (i := 1) (setCell_same (cs := [.int .i64 0, .bool false]) (i := 0) hD _) _, bl_set (bl_set hb4' _ _ (Nat.le_refl _)) _ _ (Nat.le_refl _)⟩
              | exact ⟨_, rfl, alloc_new _ _, bl_alloc hb4' _⟩
        case rest =>
          obtain ⟨D, rfl, hD, hbD⟩ := hcut
          rename World => wq
          have HZ5 := Lib.hid ((hbD.block _ (block_lt HZ2.out)).trans HZ2.out)
          have HB5 := Lib.hid (bl_then HBW.out hbD)
          have HA5 := Lib.hid (HA2.out.below hbD)
          have HRD5 : Hid (∀ W, Below wq.heap.size wq W → Reads W 1 (.slice (some ⟨g, 0, none⟩) M c1) M (ints pre)) := Lib.hid fun W hW => HRD0.out W (bl_then hbD hW)
          obtain ⟨x, ok, hx⟩ : ∃ x ok, doNum op a b = (x, ok) := ⟨_, _, rfl⟩
          rw [hx] at hD
          have HX := Lib.hid hx
          have HD := Lib.hid hD
          have HSS5 : Hid (∀ W, Below wq.heap.size wq W → W.cell? ⟨D, 0, none⟩ = some (.int .i64 x)) := Lib.hid fun W hW => cell_of_blk ((hW.block _ (block_lt HD.out)).trans HD.out) 0
          have cD0 : wq.cell? ⟨D, 0, none⟩ = some (.int .i64 x) := cell_of_blk (cs := [.int .i64 x, .bool ok]) hD 0
          have cD1 : wq.cell? ⟨D, 1, none⟩ = some (.bool ok) := cell_of_blk (cs := [.int .i64 x, .bool ok]) hD 1
          clear hD hbD hx f0 f1 f3 fr0 fr1 y0 y1
          have fr0 : wq.frozen? ⟨Z, 0, none⟩ = false := free_of_blk (cs := [.int .i64 0, .bool false]) HZ5.out 0
          have fr1 : wq.frozen? ⟨Z, 1, none⟩ = false := free_of_blk (cs := [.int .i64 0, .bool false]) HZ5.out 1
          have y0 : wq.cell? ⟨Z, 0, none⟩ = some (.int .i64 0) := cell_of_blk (cs := [.int .i64 0, .bool false]) HZ5.out 0
          have y1 : wq.cell? ⟨Z, 1, none⟩ = some (.bool false) := cell_of_blk (cs := [.int .i64 0, .bool false]) HZ5.out 1
          cases ok
          · skip
            have hE : (evalRun ss (cs.take (K + 1))).2 = false := by rw [HU.out]; exact (by rw [evalOne_do (c := ⟨op, cn, var, field, at_⟩) h6 h7 h8 h9, evalDo_two, HX.out])
            have HE := Lib.hid hE
            clear hE
            go_wp2_with fail
            refine bodyPost_ret (v := .agg #[.int .i64 0, .bool false]) (results_cell (p := 4) rfl _ _ Z 106 _ (0, 0) _ rfl (setCell_same (i := 1) (setCell_same (cs := [.int .i64 0, .bool false]) (i := 0) HZ5.out (.int .i64 0)) (.bool false)) Try.underlying106 rfl numInfo) rfl ⟨by rw [evalRes_bad HE.out], bl_set (bl_set HB5.out _ _ HZw.out) _ _ HZw.out⟩
          · skip
            have HB2a : Hid (((((wq.alloc (.cells #[] 2)).alloc (.cells #[.int .i64 (x)] 2)).drew).heap[wq.heap.size + 1]? = some (.cells #[.int .i64 (x)] 2 (0, 0)))) := Lib.hid (alloc_new' (wq.alloc (.cells #[] 2)) _ _ (by simp))
            have HB2b : Hid (((((wq.alloc (.cells #[.int .i64 (x)] 2)).alloc (.cells #[] 2)).drew).heap[wq.heap.size]? = some (.cells #[.int .i64 (x)] 2 (0, 0)))) := Lib.hid (alloc_old (alloc_new wq _) _)
            go_wp2_with fail
            go_region_held3 (fun w' => w'.cell? ⟨D, 0, none⟩ = some (.int .i64 x))
              (first | exact hs6 | exact HSS5.out _ (bl_alloc acc5.bel _) | exact hs5 | exact HSS5.out _ (bl_drew (bl_alloc (bl_alloc (Below.refl _ _) _) _)) | exact HSS5.out _ (bl_drew (bl_alloc (Below.refl _ _) _)) | exact HSS5.out _ (bl_drew (Below.refl _ _)))
              (first
                | (have acc5' := acc5; refine step_append_ints wq rfl (.tmp 54) (.tmp 57) rfl (by first | exact acc5 | exact acc5.alloc _) rfl (ds := [x]) (by first | exact reads_one hB5 | exact reads_one (alloc_new _ _)) rfl (by omega) (M + 1) rfl ?_; intro A6 c6 w6 acc6 gr6; have hs6 := HSS5.out _ acc6.bel)
                | (go_loud (refine step_append_ints wq rfl (.tmp 49) (.tmp 53) rfl (by first | exact (IAcc.empty' wq rfl).drew | exact ((IAcc.empty' wq rfl).alloc _).drew | exact ((IAcc.empty' (wq.alloc _) (by simp)).later (bl_alloc (Below.refl _ _) _)).drew) rfl (ds := pre) (by first | exact HRD5.out _ (bl_drew (bl_alloc (Below.refl _ _) _)) | exact HRD5.out _ (bl_drew (bl_alloc (bl_alloc (Below.refl _ _) _) _))) rfl (by omega) M (by omega) ?_); intro A5 c5 w5 acc5 gr5; rw [List.nil_append] at acc5; have hs5 := HSS5.out _ acc5.bel; (first | (have hB5 := grown_keeps (g := wq.heap.size) (HB2a.out) gr5 (by omega)) | (have hB5 := grown_keeps (g := wq.heap.size + 1) (HB2b.out) gr5 (by omega)) | skip)))
            all_goals
              have hfin := acc6.later HA5.out.bel
              have hE : evalRun ss (cs.take (K + 1)) = (pre ++ [x], true) := by rw [HU.out]; exact (by rw [evalOne_do (c := ⟨op, cn, var, field, at_⟩) h6 h7 h8 h9, evalDo_two, HX.out])
              have HE := Lib.hid hE
              have HAC := Lib.hid hfin
              clear hE hfin
              go_wp2_with fail
              go_roundw
              case rel => exact ⟨K + 1, M + 1, pre ++ [x], _, _, by omega, rfl, by simp, HE.out, HAC.out⟩
              case measure => simp [intOf]; omega
    · obtain rfl : K = n := by omega
      have hall : cs.take K = cs := List.take_of_length_le (by rw [HC.out.len]; exact Nat.le_refl _)
      rw [hall] at hrun
      have HRN := Lib.hid hrun
      have HZ2 := Lib.hid ((hacc.bel.block _ (block_lt HZ0.out)).trans HZ0.out)
      have HBW := Lib.hid (bl_then HB0.out hacc.bel)
      have fr0 : wr.frozen? ⟨Z, 0, none⟩ = false := free_of_blk (cs := [.int .i64 0, .bool false]) HZ2.out 0
      have fr1 : wr.frozen? ⟨Z, 1, none⟩ = false := free_of_blk (cs := [.int .i64 0, .bool false]) HZ2.out 1
      have y0 : wr.cell? ⟨Z, 0, none⟩ = some (.int .i64 0) := cell_of_blk (cs := [.int .i64 0, .bool false]) HZ2.out 0
      have y1 : wr.cell? ⟨Z, 1, none⟩ = some (.bool false) := cell_of_blk (cs := [.int .i64 0, .bool false]) HZ2.out 1
      have hKK : ¬ ((K : Int) < K) := by omega
      by_cases hL1 : L = 1
      · subst hL1
        obtain ⟨x, rfl⟩ : ∃ x, st = [x] := List.length_eq_one_iff.mp HLL.out
        obtain ⟨g, rfl, hgc, hg1, hgl, hcell⟩ := hacc.at_ (by omega)
        have hx0 : wr.cell? ⟨g, 0, none⟩ = some (.int .i64 x) := hcell 0 x rfl
        clear hcell hacc hrun hall hgc
        go_wp2_with fail
        refine bodyPost_ret (v := .agg #[.int .i64 x, .bool true]) (results_cell (p := 4) rfl _ _ Z 106 _ (0, 0) _ rfl (setCell_same (i := 1) (setCell_same (cs := [.int .i64 0, .bool false]) (i := 0) HZ2.out (.int .i64 x)) (.bool true)) Try.underlying106 rfl numInfo) rfl ⟨by rw [evalRes_one HRN.out], bl_set (bl_set HBW.out _ _ HZw.out) _ _ HZw.out⟩
      · have d1 : ((L : Int) == 1) = false := by simp; omega
        clear hacc hrun hall
        go_wp2_with fail
        refine bodyPost_ret (v := .agg #[.int .i64 0, .bool false]) (results_cell (p := 4) rfl _ _ Z 106 _ (0, 0) _ rfl (setCell_same (i := 1) (setCell_same (cs := [.int .i64 0, .bool false]) (i := 0) HZ2.out (.int .i64 0)) (.bool false)) Try.underlying106 rfl numInfo) rfl ⟨by rw [evalRes_many HRN.out (by rw [HLL.out]; exact hL1)], bl_set (bl_set HBW.out _ _ HZw.out) _ _ HZw.out⟩
end Go.Proofs.Ytecdnpdmjbcioaa
