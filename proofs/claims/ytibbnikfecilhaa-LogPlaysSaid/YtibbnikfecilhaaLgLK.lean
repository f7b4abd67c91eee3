/- Chapter 19: what is told of a log is what the document says. (Printed by lggen.py.) -/
import Derived.Test.YtibbnikfecilhaaLgDH
namespace Go.Proofs.Ytibbnikfecilhaa
open Go.RowKit
set_option linter.unusedVariables false
set_option linter.unusedSimpArgs false

theorem outs_at2 {w : World} {X : Nat} {l : List (OutV × Int)} (h : w.heap[X]? = some (.cells (outsCells l).toArray 47 (0, 0))) {i : Nat} {x : OutV × Int} (hi : l[i]? = some x) :
    w.cell? ⟨X, i * 4, none⟩ = some (.slice none 0 0) ∧ w.cell? ⟨X, i * 4 + 1, none⟩ = some (.slice x.1.a x.1.n x.1.c) ∧ w.cell? ⟨X, i * 4 + 2, none⟩ = some (.slice none 0 0) ∧ w.cell? ⟨X, i * 4 + 3, none⟩ = some (.slice none 0 0) := by
  have hl : i < l.length := (List.getElem?_eq_some_iff.1 hi).1
  have hx : l.getD i (OutV.zero, -1) = x := by rw [List.getD_eq_getElem?_getD, hi]; rfl
  have h4 : ∀ j, j < 4 → w.cell? ⟨X, i * 4 + j, none⟩ = x.1.cells[j]? := fun j hj => by
    rw [cell_of_blk h]
    have := flat_at (fun x : OutV × Int => x.1.cells) 4 (fun _ => rfl) (OutV.zero, -1) l i hl j hj
    rw [hx] at this
    exact this
  exact ⟨h4 0 (by omega), h4 1 (by omega), h4 2 (by omega), h4 3 (by omega)⟩
theorem told_in2 {w : World} {lo L : Nat} {b : LogB} {s : LogS} (h : LogAt w lo L b s) {i : Nat} (hi : i < s.cfg.sh) : LostIn w b.C (s.told i) := by
  unfold LogS.told
  cases hx : s.out i s.low with
  | none => exact .inl rfl
  | some x => exact h.lost i s.low x hi hx
theorem told_num (s : LogS) (i : Nat) : (s.told i).2 = s.num i s.low := by
  unfold LogS.told LogS.num
  cases s.out i s.low <;> rfl
set_option maxHeartbeats 16000000 in
set_option maxRecDepth 100000 in
theorem looks_any {w : World} {lo lo' L D : Nat} {b : LogB} {d : DocB} {s : LogS} (h : LogAt w lo L b s) (hr : RefAt w lo' D b.C d s) :
    Calls Try.prog 29 #[.pointer (some ⟨L, 0, none⟩), .pointer (some ⟨D, 0, none⟩)] w fun e w' => e = .returned (.bool true) ∧ Below w.heap.size w w' := by
  have hsm := hr.small
  have hlt := h.inv.low
  have hsh := h.inv.sh2
  have HL0 := Lib.hid h
  have HR0 := Lib.hid hr
  obtain ⟨cl, hcl⟩ : ∃ cl, s.closed = cl := ⟨_, rfl⟩
  have HT : Hid (Calls Try.prog 25 #[.pointer (some ⟨L, 0, none⟩)] w fun e w' => e = .returned (.tuple #[.int .i64 s.tail, .bool cl]) ∧ ∃ j, w' = w.drewN j) := Lib.hid (by rw [← hcl]; exact logTail HL0.out)
  have hc : ∀ W, Below w.heap.size w W → W.cell? ⟨D, 7, none⟩ = some (.slice d.A s.tail d.cap) ∧ W.cell? ⟨D, 8, none⟩ = some (.bool cl) ∧ W.cell? ⟨D, 9, none⟩ = some (.int .i64 s.low) := fun W hW => by
    have h8 := (HR0.out.below hW).cell 8
    change _ = some (Value.bool s.closed) at h8
    rw [hcl] at h8
    exact ⟨(HR0.out.below hW).cell 7, h8, (HR0.out.below hW).cell 9⟩
  have HC := Lib.hid hc
  clear h hr hc hcl
  go_enter Try.func29, Try.ntmps29
  go_wp2_with fail
  refine HT.out.mono ?_
  rintro e w7 ⟨rfl, j7, rfl⟩
  have hb7 := bl_drewN (Below.refl _ w) j7
  have HB7 := Lib.hid hb7
  obtain ⟨z7, z8, z9⟩ := HC.out _ hb7
  clear hb7
  generalize w.drewN j7 = w7 at *
  have HLOW := Lib.hid (fun W (hW : Below w7.heap.size w7 W) => logLow (HL0.out.below (bl_then HB7.out hW)))
  have HBD : Hid (∀ j, Below w.heap.size w (w7.drewN j)) := Lib.hid fun j => bl_drewN HB7.out j
  have e1 : ((s.tail : Int) != s.tail) = false := by simp
  have e2 : (cl != cl) = false := by simp
  have e3 : ((s.low : Int) != s.low) = false := by simp
  go_wp2_with fail
  go_quiet ((go_at_call 21; exact Calls.quiet_of_same (HLOW.out _ (bl_drewN (Below.refl _ _) _))))
  have hb8 := HBD.out nq
  clear z7 z8 z9 HBD HLOW HT
  generalize w7.drewN nq = w8 at *
  go_wp2_with fail
  go_loopw [7] (fun v wr => ∃ K : Nat, K ≤ 6 ∧ v = .int .i64 ((K : Int) - 1) ∧ Below w.heap.size w wr) (fun v _ => 6 - (intOf v + 1).toNat)
  case atStart => exact ⟨0, Nat.zero_le _, rfl, hb8⟩
  case round =>
    clear hb8
    obtain ⟨K, hK, rfl, hb⟩ := hrel
    have HB := Lib.hid hb
    by_cases hK6 : K < 6
    · have HCU := Lib.hid (logCursor (HL0.out.below hb) ((K : Int) - 1) (s.cursor ((K : Int) - 1)) rfl)
      have HCV := Lib.hid (refCursor (HR0.out.below hb) ((K : Int) - 1) (s.cursor ((K : Int) - 1)) rfl)
      clear hb
      generalize s.cursor ((K : Int) - 1) = cu at *
      have e4 : (cu != cu) = false := by simp
      go_wp2_with fail
      refine HCU.out.mono ?_
      rintro e w9 ⟨rfl, rfl⟩
      go_wp2_with fail
      refine HCV.out.mono ?_
      rintro e w9 ⟨rfl, rfl⟩
      go_wp2_with fail
      go_roundw
      case rel => exact ⟨K + 1, hK6, congrArg (Value.int .i64) (by omega), HB.out⟩
      case measure => simp [intOf]; omega
    · obtain ⟨z7, z8, z9⟩ := HC.out _ hb
      clear hb
      go_wp2_with fail
      obtain ⟨V, hV⟩ : ∃ V : Value, V = .int .i64 ((K : Int) - 1) := ⟨_, rfl⟩
      try rw [← hV]
      clear hV hK6 hK z7 z8 z9
      obtain ⟨wo, hwo⟩ : ∃ wo, wo = wr := ⟨_, rfl⟩
      subst hwo
      go_loopw [8] (fun v wr => ∃ J : Nat, J ≤ s.tail - s.low + 4 ∧ v = .int .i64 ((s.low : Int) - 2 + J) ∧ Below w.heap.size w wr) (fun v _ => (s.tail + 2 - intOf v).toNat)
      case atStart => exact ⟨0, Nat.zero_le _, congrArg (Value.int .i64) (by omega), HB.out⟩
      case round =>
        clear HB
        obtain ⟨J, hJ, rfl, hb⟩ := hrel
        have HB := Lib.hid hb
        obtain ⟨z7, z8, z9⟩ := HC.out _ hb
        by_cases hJ6 : J < s.tail - s.low + 4
        · obtain ⟨lk, hlk⟩ : ∃ lk, entry CmdV.zero (s.look ((s.low : Int) - 2 + J)) = lk := ⟨_, rfl⟩
          have HLK := Lib.hid (logLook (HL0.out.below hb) ((s.low : Int) - 2 + J) (by omega) lk hlk)
          have HRK := Lib.hid (fun W (hW : Below wr.heap.size wr W) => refLook (HR0.out.below (bl_then hb hW)) ((s.low : Int) - 2 + J) lk hlk)
          obtain ⟨⟨kd, nn⟩, lies⟩ := lk
          have HLK2 : Hid (Calls Try.prog 26 #[.pointer (some ⟨L, 0, none⟩), .int .i64 ((s.low : Int) - 2 + J)] wr fun e w' => e = .returned (.tuple #[.agg #[.int .i64 kd, .int .i64 0, .int .i64 nn, .int .i64 0, .int .i64 0, .int .i64 0, .int .i64 0, .int .i64 0, .int .i64 0, .int .i64 0, .int .i64 0, .slice none 0 0, .int .i64 0, .bool false], .bool lies]) ∧ Below wr.heap.size wr w') := Lib.hid HLK.out
          have HRK2 : Hid (∀ W, Below wr.heap.size wr W → Calls Try.prog 55 #[.pointer (some ⟨D, 0, none⟩), .int .i64 ((s.low : Int) - 2 + J)] W fun e w' => e = .returned (.tuple #[.agg #[.int .i64 kd, .int .i64 0, .int .i64 nn, .int .i64 0, .int .i64 0, .int .i64 0, .int .i64 0, .int .i64 0, .int .i64 0, .int .i64 0, .int .i64 0, .slice none 0 0, .int .i64 0, .bool false], .bool lies]) ∧ Below W.heap.size W w') := Lib.hid HRK.out
          have hat : (s.low : Int) - 2 + J < s.tail + 2 := by omega
          have hat0 : -2 ≤ (s.low : Int) - 2 + J := by omega
          obtain ⟨at_, hate⟩ : ∃ at_ : Int, (s.low : Int) - 2 + J = at_ := ⟨_, rfl⟩
          rw [hate] at HLK2 HRK2 hat hat0
          rw [hate]
          have HATE := Lib.hid hate
          have HJ := Lib.hid hJ6
          clear hlk HLK HRK hb hate hJ6 hJ
          have f1 : (kd != kd) = false := by simp
          have f2 : (nn != nn) = false := by simp
          have f3 : (lies != lies) = false := by simp
          go_wp2_with fail
          refine HLK2.out.mono ?_
          rintro e w9 ⟨rfl, hb9⟩
          have hbA : Below wr.heap.size wr (w9.alloc (.cells #[.int .i64 kd, .int .i64 0, .int .i64 nn, .int .i64 0, .int .i64 0, .int .i64 0, .int .i64 0, .int .i64 0, .int .i64 0, .int .i64 0, .int .i64 0, .slice none 0 0, .int .i64 0, .bool false] 39)) := bl_alloc hb9 _
          have hqA : (w9.alloc (.cells #[.int .i64 kd, .int .i64 0, .int .i64 nn, .int .i64 0, .int .i64 0, .int .i64 0, .int .i64 0, .int .i64 0, .int .i64 0, .int .i64 0, .int .i64 0, .slice none 0 0, .int .i64 0, .bool false] 39)).heap[w9.heap.size]? = some (.cells #[.int .i64 kd, .int .i64 0, .int .i64 nn, .int .i64 0, .int .i64 0, .int .i64 0, .int .i64 0, .int .i64 0, .int .i64 0, .int .i64 0, .int .i64 0, .slice none 0 0, .int .i64 0, .bool false] 39 (0, 0)) := alloc_new _ _
          have HBA := Lib.hid hbA
          have HQA := Lib.hid hqA
          clear hb9 hbA hqA z7 z8 z9
          go_wp2_with fail
          generalize w9.heap.size = QA at *
          generalize w9.alloc (.cells #[.int .i64 kd, .int .i64 0, .int .i64 nn, .int .i64 0, .int .i64 0, .int .i64 0, .int .i64 0, .int .i64 0, .int .i64 0, .int .i64 0, .int .i64 0, .slice none 0 0, .int .i64 0, .bool false] 39) = wA at *
          refine (HRK2.out _ HBA.out).mono ?_
          rintro e w10 ⟨rfl, hb10⟩
          have hqA2 : (w10.alloc (.cells #[.int .i64 kd, .int .i64 0, .int .i64 nn, .int .i64 0, .int .i64 0, .int .i64 0, .int .i64 0, .int .i64 0, .int .i64 0, .int .i64 0, .int .i64 0, .slice none 0 0, .int .i64 0, .bool false] 39)).heap[QA]? = some (.cells #[.int .i64 kd, .int .i64 0, .int .i64 nn, .int .i64 0, .int .i64 0, .int .i64 0, .int .i64 0, .int .i64 0, .int .i64 0, .int .i64 0, .int .i64 0, .slice none 0 0, .int .i64 0, .bool false] 39 (0, 0)) := alloc_old ((hb10.block _ (block_lt HQA.out)).trans HQA.out) _
          have hqB : (w10.alloc (.cells #[.int .i64 kd, .int .i64 0, .int .i64 nn, .int .i64 0, .int .i64 0, .int .i64 0, .int .i64 0, .int .i64 0, .int .i64 0, .int .i64 0, .int .i64 0, .slice none 0 0, .int .i64 0, .bool false] 39)).heap[w10.heap.size]? = some (.cells #[.int .i64 kd, .int .i64 0, .int .i64 nn, .int .i64 0, .int .i64 0, .int .i64 0, .int .i64 0, .int .i64 0, .int .i64 0, .int .i64 0, .int .i64 0, .slice none 0 0, .int .i64 0, .bool false] 39 (0, 0)) := alloc_new _ _
          have HBB := Lib.hid (bl_then HB.out (bl_alloc (bl_then HBA.out hb10) (.cells #[.int .i64 kd, .int .i64 0, .int .i64 nn, .int .i64 0, .int .i64 0, .int .i64 0, .int .i64 0, .int .i64 0, .int .i64 0, .int .i64 0, .int .i64 0, .slice none 0 0, .int .i64 0, .bool false] 39)))
          have a0 : (w10.alloc (.cells #[.int .i64 kd, .int .i64 0, .int .i64 nn, .int .i64 0, .int .i64 0, .int .i64 0, .int .i64 0, .int .i64 0, .int .i64 0, .int .i64 0, .int .i64 0, .slice none 0 0, .int .i64 0, .bool false] 39)).cell? ⟨QA, 0, none⟩ = some (.int .i64 kd) := cell_of_blk (cs := [.int .i64 kd, .int .i64 0, .int .i64 nn, .int .i64 0, .int .i64 0, .int .i64 0, .int .i64 0, .int .i64 0, .int .i64 0, .int .i64 0, .int .i64 0, .slice none 0 0, .int .i64 0, .bool false]) hqA2 0
          have a2 : (w10.alloc (.cells #[.int .i64 kd, .int .i64 0, .int .i64 nn, .int .i64 0, .int .i64 0, .int .i64 0, .int .i64 0, .int .i64 0, .int .i64 0, .int .i64 0, .int .i64 0, .slice none 0 0, .int .i64 0, .bool false] 39)).cell? ⟨QA, 2, none⟩ = some (.int .i64 nn) := cell_of_blk (cs := [.int .i64 kd, .int .i64 0, .int .i64 nn, .int .i64 0, .int .i64 0, .int .i64 0, .int .i64 0, .int .i64 0, .int .i64 0, .int .i64 0, .int .i64 0, .slice none 0 0, .int .i64 0, .bool false]) hqA2 2
          have b0 : (w10.alloc (.cells #[.int .i64 kd, .int .i64 0, .int .i64 nn, .int .i64 0, .int .i64 0, .int .i64 0, .int .i64 0, .int .i64 0, .int .i64 0, .int .i64 0, .int .i64 0, .slice none 0 0, .int .i64 0, .bool false] 39)).cell? ⟨w10.heap.size, 0, none⟩ = some (.int .i64 kd) := cell_of_blk (cs := [.int .i64 kd, .int .i64 0, .int .i64 nn, .int .i64 0, .int .i64 0, .int .i64 0, .int .i64 0, .int .i64 0, .int .i64 0, .int .i64 0, .int .i64 0, .slice none 0 0, .int .i64 0, .bool false]) hqB 0
          have b2 : (w10.alloc (.cells #[.int .i64 kd, .int .i64 0, .int .i64 nn, .int .i64 0, .int .i64 0, .int .i64 0, .int .i64 0, .int .i64 0, .int .i64 0, .int .i64 0, .int .i64 0, .slice none 0 0, .int .i64 0, .bool false] 39)).cell? ⟨w10.heap.size, 2, none⟩ = some (.int .i64 nn) := cell_of_blk (cs := [.int .i64 kd, .int .i64 0, .int .i64 nn, .int .i64 0, .int .i64 0, .int .i64 0, .int .i64 0, .int .i64 0, .int .i64 0, .int .i64 0, .int .i64 0, .slice none 0 0, .int .i64 0, .bool false]) hqB 2
          clear hb10 hqA2 hqB
          go_wp2_with fail
          go_roundw
          case rel => exact ⟨J + 1, HJ.out, congrArg (Value.int .i64) (by have := HATE.out; omega), HBB.out⟩
          case measure => simp [intOf]; omega
        · have hend : (s.low : Int) - 2 + J = s.tail + 2 := by omega
          clear hJ6 hJ
          go_wp2_with fail
          obtain ⟨V2, hV2⟩ : ∃ V2 : Value, V2 = .int .i64 ((s.low : Int) - 2 + J) := ⟨_, rfl⟩
          try rw [← hV2]
          clear hV2 hend z7 z8 z9
          cases hco : s.collect with
          | none =>
            have HCO := Lib.hid (logCollect (HL0.out.below hb) none hco)
            have HCD := Lib.hid (fun W (hW : Below wr.heap.size wr W) => refCollect (HR0.out.below (bl_then hb hW)) false (by rw [hco]; rfl))
            clear hb hco
            refine HCO.out.mono ?_
            rintro e w9 ⟨rfl, hb9⟩
            have HB9 := Lib.hid (bl_then HB.out hb9)
            have HC9 := Lib.hid hb9
            clear hb9
            go_wp2_with fail
            refine (HCD.out _ HC9.out).mono ?_
            rintro e w10 ⟨rfl, hb10⟩
            have hb11 := bl_then HB9.out hb10
            simp only [Bool.false_eq_true, if_false]
            clear hb10
            go_wp2_with fail
            obtain ⟨wo2, hwo2⟩ : ∃ wo2, wo2 = w10 := ⟨_, rfl⟩
            subst hwo2
            go_loopw [17] (fun v wr => v = .int .i64 0 ∧ Below w.heap.size w wr) (fun v _ => 0)
            case atStart => exact ⟨rfl, hb11⟩
            case round =>
              obtain ⟨rfl, hbf⟩ := hrel
              go_wp2_with fail
              go_ret
              exact ⟨rfl, hbf⟩
          | some l =>
            have HCO := Lib.hid (logCollect (HL0.out.below hb) (some l) hco)
            have HCD := Lib.hid (fun W (hW : Below wr.heap.size wr W) => refCollect (HR0.out.below (bl_then hb hW)) true (by rw [hco]; rfl))
            obtain ⟨c, hlk, _, hl⟩ := collect_some hco
            have hll : l.length = s.cfg.sh := by rw [hl]; simp
            have hlow := (look_some HL0.out.inv (show (s.look s.low).isSome = true by rw [hlk]; rfl)).2
            have HLE := Lib.hid hl
            clear hb hco hlk hl
            refine HCO.out.mono ?_
            rintro e w9 ⟨X, rfl, hX, hXb, hb9⟩
            have HB9 := Lib.hid (bl_then HB.out hb9)
            have HC9 := Lib.hid hb9
            have HX9 := Lib.hid hXb
            rw [hll]
            clear hb9 hX hXb hll
            go_wp2_with fail
            refine (HCD.out _ HC9.out).mono ?_
            rintro e w10 ⟨rfl, hb10⟩
            simp only [if_true]
            have HB10 := Lib.hid (bl_then HB9.out hb10)
            have HX10 := Lib.hid ((hb10.block _ (block_lt HX9.out)).trans HX9.out)
            have hbr := Below.refl w10.heap.size w10
            clear hb10
            have e5 : ((s.cfg.sh : Int) != s.cfg.sh) = false := by simp
            go_wp2_with fail
            obtain ⟨wo2, hwo2⟩ : ∃ wo2, wo2 = w10 := ⟨_, rfl⟩
            subst hwo2
            go_loopw [17] (fun v wr => ∃ K : Nat, K ≤ s.cfg.sh ∧ v = .int .i64 K ∧ Below wo2.heap.size wo2 wr) (fun v _ => s.cfg.sh - (intOf v).toNat)
            case atStart => exact ⟨0, Nat.zero_le _, rfl, hbr⟩
            case round =>
              clear hbr
              obtain ⟨I, hI, rfl, hbI⟩ := hrel
              have HBI := Lib.hid (bl_then HB10.out hbI)
              by_cases hIs : I < s.cfg.sh
              · have hXI := (hbI.block _ (block_lt HX10.out)).trans HX10.out
                have hlk : l[I]? = some (s.told I) := by
                  rw [HLE.out, List.getElem?_map, List.getElem?_range hIs]
                  rfl
                obtain ⟨tv, htv⟩ : ∃ tv, s.told I = tv := ⟨_, rfl⟩
                rw [htv] at hlk
                obtain ⟨⟨la, ln, lc⟩, z⟩ := tv
                have hLI := told_in2 (HL0.out.below HBI.out) hIs
                have hLD := (HR0.out.below HBI.out).lost s.low I hlow hIs
                rw [← told_num, htv] at hLD
                rw [htv] at hLI
                obtain ⟨dv, hdv⟩ : ∃ dv, d.ov s.low I = dv := ⟨_, rfl⟩
                rw [hdv] at hLD
                obtain ⟨ma, mn, mc⟩ := dv
                have hS : ∀ W, Below wr.heap.size wr W → (W.cell? ⟨X, I * 4, none⟩ = some (.slice none 0 0) ∧ W.cell? ⟨X, I * 4 + 1, none⟩ = some (.slice la ln lc) ∧ W.cell? ⟨X, I * 4 + 2, none⟩ = some (.slice none 0 0) ∧ W.cell? ⟨X, I * 4 + 3, none⟩ = some (.slice none 0 0)) ∧
                    (W.cell? ⟨d.ob s.low, I * 4, none⟩ = some (.slice none 0 0) ∧ W.cell? ⟨d.ob s.low, I * 4 + 1, none⟩ = some (.slice ma mn mc) ∧ W.cell? ⟨d.ob s.low, I * 4 + 2, none⟩ = some (.slice none 0 0) ∧ W.cell? ⟨d.ob s.low, I * 4 + 3, none⟩ = some (.slice none 0 0)) := fun W hW => by
                  have hm := (HR0.out.below (bl_then HBI.out hW)).mem
                  refine ⟨outs_at2 ((hW.block _ (block_lt hXI)).trans hXI) hlk, hm.out hlow hIs (j := 0) (by decide), ?_, hm.out hlow hIs (j := 2) (by decide), hm.out hlow hIs (j := 3) (by decide)⟩
                  have := hm.out hlow hIs (j := 1) (by decide)
                  rw [show (docM d s).ob s.low = d.ob s.low from rfl, show (docM d s).of s.low I = OutV.cells (d.ov s.low I) from rfl, hdv] at this
                  exact this
                have HS := Lib.hid hS
                have HOA : Hid (∀ W, Below wr.heap.size wr W → Calls Try.prog 18 #[.agg #[.slice none 0 0, .slice la ln lc, .slice none 0 0, .slice none 0 0]] W fun e w' => e = .returned (.int .i64 z) ∧ Below W.heap.size W w') := Lib.hid fun W hW => of_any (hLI.keptD (C := b.C) fun k o hk _ => (hW.block _ (block_lt hk)).trans hk)
                have HOB : Hid (∀ W, Below wr.heap.size wr W → Calls Try.prog 18 #[.agg #[.slice none 0 0, .slice ma mn mc, .slice none 0 0, .slice none 0 0]] W fun e w' => e = .returned (.int .i64 z) ∧ Below W.heap.size W w') := Lib.hid fun W hW => of_any (hLD.keptD (C := b.C) fun k o hk _ => (hW.block _ (block_lt hk)).trans hk)
                have HI2 := Lib.hid hbI
                clear hXI hlk htv hLI hLD hdv hS hbI
                have e6 : (z != z) = false := by simp
                go_wp2_with fail
                go_region_held3 (fun W => (W.cell? ⟨X, I * 4, none⟩ = some (.slice none 0 0) ∧ W.cell? ⟨X, I * 4 + 1, none⟩ = some (.slice la ln lc) ∧ W.cell? ⟨X, I * 4 + 2, none⟩ = some (.slice none 0 0) ∧ W.cell? ⟨X, I * 4 + 3, none⟩ = some (.slice none 0 0)) ∧
                    (W.cell? ⟨d.ob s.low, I * 4, none⟩ = some (.slice none 0 0) ∧ W.cell? ⟨d.ob s.low, I * 4 + 1, none⟩ = some (.slice ma mn mc) ∧ W.cell? ⟨d.ob s.low, I * 4 + 2, none⟩ = some (.slice none 0 0) ∧ W.cell? ⟨d.ob s.low, I * 4 + 3, none⟩ = some (.slice none 0 0)))
                  (first | exact HS.out _ hb12' | exact HS.out _ hb11' | exact HS.out _ (bl_drew (Below.refl _ _)))
                  (first
                    | (have later := hb11'; go_at_call 18; refine (HOB.out _ hb11').mono ?_; rintro e w12 ⟨rfl, hb12⟩; have hb12' := bl_then hb11' hb12)
                    | (go_at_call 18; refine (HOA.out _ (bl_drew (Below.refl _ _))).mono ?_; rintro e w11 ⟨rfl, hb11⟩; have hb11' := bl_then (bl_drew (Below.refl _ wr)) hb11))
                all_goals
                  go_wp2_with fail
                  go_roundw
                  case rel => exact ⟨I + 1, hIs, by simp, bl_then HI2.out hb12'⟩
                  case measure => simp [intOf]; omega
              · clear hbI hI
                go_wp2_with fail
                go_ret
                exact ⟨rfl, HBI.out⟩
end Go.Proofs.Ytibbnikfecilhaa
