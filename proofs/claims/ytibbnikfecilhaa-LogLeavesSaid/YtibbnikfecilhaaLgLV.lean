/- Chapter 19: LogLeaves. -/
import Derived.Test.YtibbnikfecilhaaLgV
namespace Go.Proofs.Ytibbnikfecilhaa
open Go.RowKit
set_option linter.unusedVariables false
set_option linter.unusedSimpArgs false

theorem outs_at {w : World} {X : Nat} {l : List (OutV × Int)} (h : w.heap[X]? = some (.cells (outsCells l).toArray 47 (0, 0))) {i : Nat} {x : OutV × Int} (hi : l[i]? = some x) :
    w.cell? ⟨X, i * 4, none⟩ = some (.slice none 0 0) ∧ w.cell? ⟨X, i * 4 + 1, none⟩ = some (.slice x.1.a x.1.n x.1.c) ∧ w.cell? ⟨X, i * 4 + 2, none⟩ = some (.slice none 0 0) ∧ w.cell? ⟨X, i * 4 + 3, none⟩ = some (.slice none 0 0) := by
  have hl : i < l.length := (List.getElem?_eq_some_iff.1 hi).1
  have hx : l.getD i (OutV.zero, -1) = x := by rw [List.getD_eq_getElem?_getD, hi]; rfl
  have h4 : ∀ j, j < 4 → w.cell? ⟨X, i * 4 + j, none⟩ = x.1.cells[j]? := fun j hj => by
    rw [cell_of_blk h]
    have := flat_at (fun x : OutV × Int => x.1.cells) 4 (fun _ => rfl) (OutV.zero, -1) l i hl j hj
    rw [hx] at this
    exact this
  exact ⟨h4 0 (by omega), h4 1 (by omega), h4 2 (by omega), h4 3 (by omega)⟩
theorem told_in {w : World} {lo L : Nat} {b : LogB} {s : LogS} (h : LogAt w lo L b s) {i : Nat} (hi : i < s.cfg.sh) : LostIn w b.C (s.told i) := by
  unfold LogS.told
  cases hx : s.out i s.low with
  | none => exact .inl rfl
  | some x => exact h.lost i s.low x hi hx
set_option maxHeartbeats 8000000 in
set_option maxRecDepth 100000 in
theorem leaves_law (many bt ah : Int) (w : World) (hm : -9223372036854775808 ≤ many ∧ many ≤ 9223372036854775807) (hb : -9223372036854775808 ≤ bt ∧ bt ≤ 9223372036854775807) (ha : -9223372036854775808 ≤ ah ∧ ah ≤ 9223372036854775807) :
    Calls Try.prog 3 #[.int .i64 many, .int .i64 bt, .int .i64 ah] w fun e w' => e = .returned (.bool true) ∧ Below w.heap.size w w' := by
  obtain ⟨n, hn⟩ : ∃ n : Nat, 1 + many % 5 = (n : Int) := ⟨(1 + many % 5).toNat, by omega⟩
  have n1 : 1 ≤ n := by omega
  have n5 : n ≤ 5 := by omega
  have HNN := Lib.hid hn
  clear hn hm hb ha
  go_enter Try.func3, Try.ntmps3
  go_wp2_with fail
  refine (awake19 _).mono ?_
  rintro e w1 ⟨rfl, hb1⟩
  have HB1 := Lib.hid hb1
  clear hb1
  go_wp2_with fail
  refine (rest_any many 5 _ (by decide) (by decide)).mono ?_
  rintro e w2 ⟨rfl, rfl⟩
  go_wp2_with fail
  simp only [HNN.out]
  refine (newLog (cLv n) (by
    show ((okB 4 && okB 1 && okB 1 && okB 1 && okB 1) && (decide (1 ≤ (n : Int)) && decide ((n : Int) ≤ 15) && (decide (1 ≤ (99 : Int)) && decide ((99 : Int) ≤ 1099511627776)))) = true
    rw [decide_eq_true (show (1 : Int) ≤ n by omega), decide_eq_true (show (n : Int) ≤ 15 by omega)]
    rfl)).mono ?_
  rintro e w2 ⟨L, b, rfl, h2, hb2⟩
  have HL2 := Lib.hid h2
  have HB2 := Lib.hid (bl_then HB1.out hb2)
  clear h2 hb2
  obtain ⟨lo, hlo⟩ : ∃ lo, lo = w1.heap.size := ⟨_, rfl⟩
  have HLO : Hid (w.heap.size ≤ lo) := Lib.hid (by rw [hlo]; exact HB1.out.size)
  rw [← hlo] at HL2
  clear hlo
  go_wp2_with fail
  refine (logTake_to HL2.out 0 false true (by rfl) _ rfl (by omega)).mono ?_
  rintro e w3 ⟨rfl, h3, o3⟩
  have H3 := Lib.hid h3
  have HB3 := Lib.hid (bl_only HB2.out o3 (fun i hi => by subst hi; exact Nat.le_trans HLO.out HL2.out.lo.1))
  clear h3 o3
  go_wp2_with fail
  refine (logFill H3.out 0 ⟨4, 0⟩ true (by rfl) (lv0 n) rfl (by omega)).mono ?_
  rintro e w4 ⟨rfl, h4, o4⟩
  have H4 := Lib.hid h4
  have HB4 := Lib.hid (bl_only HB3.out o4 (fun i hi => by subst hi; exact Nat.le_trans HLO.out HL2.out.lo.2.2.1))
  clear h4 o4
  go_wp2_with fail
  have HC : Hid (w.heap.size ≤ b.C ∧ ∀ j, j < n → w.heap.size ≤ b.bw j) := Lib.hid ⟨Nat.le_trans HLO.out HL2.out.lo.2.2.2.1, fun j hj => Nat.le_trans HLO.out (HL2.out.lo.2.2.2.2.2 j hj).2⟩
  go_loopw [10] (fun k wr => ∃ (W : Nat) (s : LogS), W ≤ n ∧ k = .int .i64 W ∧ LogAt wr lo L b s ∧ LvI n (bitOf ah) (bitOf bt) s W ∧ Below w.heap.size w wr) (fun k _ => n - (intOf k).toNat)
  case atStart => exact ⟨0, lv0 n, Nat.zero_le _, rfl, H4.out, LvI.init n _ _, HB4.out⟩
  case round =>
    obtain ⟨W, s, hW, rfl, hAt, hInv, hBel⟩ := hrel
    have HAT := Lib.hid hAt
    have HIN := Lib.hid hInv
    have HBL := Lib.hid hBel
    clear hAt hInv hBel
    by_cases hWn : W < n
    · have e2 : (W : Int).toNat = W := by omega
      cases hah : bitOf ah W
      · have d1 : (bits BinOp.and IntKind.i64 (ah / 2 ^ W) 1 == 1) = false := hah
        have hpo := HIN.out.posts hWn
        have HPO := Lib.hid hpo
        clear hpo
        have HAH := Lib.hid hah
        clear hah
        go_wp2_with fail
        refine (out_any W _).mono ?_
        rintro e w5 ⟨k, rfl, hk, hkb, hb5⟩
        have HLI : Hid (LostIn w5 b.C (⟨some ⟨k, 0, none⟩, 1, 1⟩, W)) := Lib.hid (.inr ⟨k, by have := block_lt HAT.out.curs; omega, rfl, hkb⟩)
        have H5 := Lib.hid (HAT.out.below hb5)
        have HB5 := Lib.hid (bl_then HBL.out hb5)
        clear hk hkb hb5
        go_wp2_with fail
        refine (logPost H5.out W _ W HLI.out true HPO.out _ rfl).mono ?_
        rintro e w6 ⟨rfl, h6, o6⟩
        have H6 : Hid (LogAt w6 lo L b (s.posted W (⟨some ⟨k, 0, none⟩, 1, 1⟩, W))) := Lib.hid h6
        have HB6 := Lib.hid (bl_only HB5.out o6 (fun i hi => by
          rcases hi with rfl | ⟨j, hj, rfl⟩
          · exact HC.out.1
          · exact HC.out.2 j (by rw [HIN.out.sh] at hj; exact hj)))
        clear h6 o6
        cases hbt : bitOf bt W
        · have d2 : (bits BinOp.and IntKind.i64 (bt / 2 ^ W) 1 == 1) = false := hbt
          have HNX := Lib.hid (HIN.out.stays hWn HAH.out hbt ⟨some ⟨k, 0, none⟩, 1, 1⟩)
          clear hbt
          go_wp2_with fail
          go_roundw
          case rel => exact ⟨W + 1, _, hWn, by simp, H6.out, HNX.out, HB6.out⟩
          case measure => simp [intOf]; omega
        · have d2 : (bits BinOp.and IntKind.i64 (bt / 2 ^ W) 1 == 1) = true := hbt
          have HNX := Lib.hid (HIN.out.goes hWn HAH.out hbt ⟨some ⟨k, 0, none⟩, 1, 1⟩)
          clear hbt
          go_wp2_with fail
          refine (logLeave H6.out W true HNX.out.1 _ rfl).mono ?_
          rintro e w7 ⟨rfl, h7, o7⟩
          have H7 := Lib.hid h7
          have HB7 := Lib.hid (bl_only HB6.out o7 (fun i hi => by subst hi; exact HC.out.1))
          clear h7 o7
          go_wp2_with fail
          go_roundw
          case rel => exact ⟨W + 1, _, hWn, by simp, H7.out, HNX.out.2, HB7.out⟩
          case measure => simp [intOf]; omega
      · have d1 : (bits BinOp.and IntKind.i64 (ah / 2 ^ W) 1 == 1) = true := hah
        have HE := Lib.hid (HIN.out.early hWn hah)
        clear hah
        go_wp2_with fail
        refine (logLeave HAT.out W true HE.out.1 (s.left W) rfl).mono ?_
        rintro e w6 ⟨rfl, h6, o6⟩
        have H6 := Lib.hid h6
        have HB6 := Lib.hid (bl_only HBL.out o6 (fun i hi => by subst hi; exact HC.out.1))
        clear h6 o6
        cases hbt : bitOf bt W
        · have d2 : (bits BinOp.and IntKind.i64 (bt / 2 ^ W) 1 == 1) = false := hbt
          clear hbt
          go_wp2_with fail
          go_roundw
          case rel => exact ⟨W + 1, _, hWn, by simp, H6.out, HE.out.2.2, HB6.out⟩
          case measure => simp [intOf]; omega
        · have d2 : (bits BinOp.and IntKind.i64 (bt / 2 ^ W) 1 == 1) = true := hbt
          clear hbt
          go_wp2_with fail
          refine (logLeave H6.out W false HE.out.2.1 (s.left W) rfl).mono ?_
          rintro e w7 ⟨rfl, h7, o7⟩
          have H7 := Lib.hid h7
          have HB7 := Lib.hid (bl_only HB6.out o7 (fun i hi => by subst hi; exact HC.out.1))
          clear h7 o7
          go_wp2_with fail
          go_roundw
          case rel => exact ⟨W + 1, _, hWn, by simp, H7.out, HE.out.2.2, HB7.out⟩
          case measure => simp [intOf]; omega
    · obtain rfl : W = n := by omega
      clear hWn
      obtain ⟨hcol, hJ⟩ := HIN.out.again
      have HCO := Lib.hid hcol
      have HJ := Lib.hid hJ
      clear hcol hJ
      go_wp2_with fail
      refine (logCollect HAT.out _ HCO.out).mono ?_
      rintro e w5 ⟨X, rfl, hX, hXb, hb5⟩
      have H5 := Lib.hid (HAT.out.below hb5)
      have HB5 := Lib.hid (bl_then HBL.out hb5)
      obtain ⟨l, hl⟩ : ∃ l, l = (List.range W).map s.told := ⟨_, rfl⟩
      have hll : l.length = W := by rw [hl]; simp
      rw [← hl] at hXb
      have HJ2 : Hid (LvJ W (bitOf ah) (bitOf bt) s l 0) := by rw [hl]; exact HJ
      have hXC : X ≠ b.C := by have := block_lt HAT.out.curs; omega
      rw [← hl]
      clear HJ HCO
      have HLL := Lib.hid hll
      rw [hll]
      have HXB := Lib.hid hXb
      have HXC := Lib.hid hXC
      clear hl hX hXb hb5 hll hXC
      go_wp2_with fail
      obtain ⟨wo, hwo⟩ : ∃ wo, wo = w5 := ⟨_, rfl⟩
      subst hwo
      go_loopw [14] (fun k wr => ∃ (K : Nat) (s : LogS), K ≤ W ∧ k = .int .i64 K ∧ LogAt wr lo L b s ∧ LvJ W (bitOf ah) (bitOf bt) s l K ∧ wr.heap[X]? = some (.cells (outsCells l).toArray 47 (0, 0)) ∧ Below w.heap.size w wr) (fun k _ => W - (intOf k).toNat)
      case atStart => exact ⟨0, s, Nat.zero_le _, rfl, H5.out, HJ2.out, HXB.out, HB5.out⟩
      case round =>
        clear HAT HIN HBL HJ2 H5 HXB HB5 s
        obtain ⟨K, s, hK, rfl, hAt, hInv, hXb, hBel⟩ := hrel
        have HAT := Lib.hid hAt
        have HIN := Lib.hid hInv
        have HBL := Lib.hid hBel
        have HXB := Lib.hid hXb
        clear hAt hInv hBel hXb
        by_cases hKW : K < W
        · have e2 : (K : Int).toNat = K := by omega
          have HSH : Hid (s.cfg.sh = W) := Lib.hid (by rw [HIN.out.cfg]; rfl)
          have hlk : l[K]? = some (s.told K) := by
            rw [HIN.out.told, List.getElem?_map, List.getElem?_range hKW]
            rfl
          obtain ⟨x0, x1, x2, x3⟩ := outs_at HXB.out hlk
          have hv := HIN.out.val K hKW
          have hlost := told_in HAT.out (i := K) (by rw [HSH.out]; exact hKW)
          obtain ⟨hcur, hlv, hnx⟩ := HIN.out.next hKW
          obtain ⟨tv, htv⟩ : ∃ tv, s.told K = tv := ⟨_, rfl⟩
          rw [htv] at x1 hv hlost
          clear htv hlk
          obtain ⟨⟨la, ln, lc⟩, z⟩ := tv
          simp only at x1 hv
          have HOF : Hid (Calls Try.prog 18 #[.agg #[.slice none 0 0, .slice la ln lc, .slice none 0 0, .slice none 0 0]] wr fun e w' => e = .returned (.int .i64 z) ∧ Below wr.heap.size wr w') := Lib.hid (of_any hlost)
          have HCU := Lib.hid hcur
          have HLV := Lib.hid hlv
          have HNX := Lib.hid hnx
          have hor := bitOf_or bt ah K (by omega)
          have hLl := HLL.out
          clear hlost hcur hlv hnx
          cases hah : bitOf ah K
          · have d1 : (bits BinOp.and IntKind.i64 (ah / 2 ^ K) 1 == 1) = false := hah
            obtain rfl : z = K := by rw [hv, hah]; rfl
            clear hv
            cases hbt : bitOf bt K
            · have hg : bitOf (bits BinOp.or IntKind.i64 bt ah) K = false := by rw [hor, hah, hbt]; rfl
              have d3 : (bits BinOp.and IntKind.i64 (bits BinOp.or IntKind.i64 bt ah / 2 ^ K) 1 == 1) = false := hg
              have HCU2 : Hid (s.cursor K = 1) := Lib.hid (by rw [HCU.out, hah, hbt]; rfl)
              have HLV2 : Hid (s.leaves K = true) := Lib.hid (by rw [HLV.out, hah, hbt]; rfl)
              clear hah hbt hg hor
              go_wp2_with fail
              refine HOF.out.mono ?_
              rintro e w6 ⟨rfl, hb6⟩
              have H6 := Lib.hid (HAT.out.below hb6)
              have HB6 := Lib.hid (bl_then HBL.out hb6)
              have HX6 := Lib.hid ((hb6.block _ (block_lt HXB.out)).trans HXB.out)
              clear hb6
              go_wp2_with fail
              refine (logCursor H6.out K 1 HCU2.out).mono ?_
              rintro e w6 ⟨rfl, rfl⟩
              go_wp2_with fail
              refine (logLeave H6.out K true HLV2.out (s.left K) rfl).mono ?_
              rintro e w7 ⟨rfl, h7, o7⟩
              have H7 := Lib.hid h7
              have HB7 := Lib.hid (bl_only HB6.out o7 (fun i hi => by subst hi; exact HC.out.1))
              have HX7 := Lib.hid (o7.block HX6.out HXC.out)
              have HN7 : Hid (LvJ W (bitOf ah) (bitOf bt) (s.left K) l (K + 1)) := Lib.hid (by have := HNX.out; rw [HLV2.out, if_pos rfl] at this; exact this)
              clear h7 o7
              go_wp2_with fail
              go_roundw
              case rel => exact ⟨K + 1, _, hKW, by simp, H7.out, HN7.out, HX7.out, HB7.out⟩
              case measure => simp [intOf]; omega
            · have hg : bitOf (bits BinOp.or IntKind.i64 bt ah) K = true := by rw [hor, hah, hbt]; rfl
              have d3 : (bits BinOp.and IntKind.i64 (bits BinOp.or IntKind.i64 bt ah / 2 ^ K) 1 == 1) = true := hg
              have HCU2 : Hid (s.cursor K = -1) := Lib.hid (by rw [HCU.out, hah, hbt]; rfl)
              have HLV2 : Hid (s.leaves K = false) := Lib.hid (by rw [HLV.out, hah, hbt]; rfl)
              clear hah hbt hg hor
              go_wp2_with fail
              refine HOF.out.mono ?_
              rintro e w6 ⟨rfl, hb6⟩
              have H6 := Lib.hid (HAT.out.below hb6)
              have HB6 := Lib.hid (bl_then HBL.out hb6)
              have HX6 := Lib.hid ((hb6.block _ (block_lt HXB.out)).trans HXB.out)
              clear hb6
              go_wp2_with fail
              refine (logCursor H6.out K (-1) HCU2.out).mono ?_
              rintro e w6 ⟨rfl, rfl⟩
              go_wp2_with fail
              refine (logLeave H6.out K false HLV2.out s rfl).mono ?_
              rintro e w7 ⟨rfl, h7, o7⟩
              have H7 := Lib.hid h7
              have HB7 := Lib.hid (bl_only HB6.out o7 (fun i hi => by subst hi; exact HC.out.1))
              have HX7 := Lib.hid (o7.block HX6.out HXC.out)
              have HN7 : Hid (LvJ W (bitOf ah) (bitOf bt) s l (K + 1)) := Lib.hid (by have := HNX.out; rw [HLV2.out, if_neg Bool.false_ne_true] at this; exact this)
              clear h7 o7
              go_wp2_with fail
              go_roundw
              case rel => exact ⟨K + 1, _, hKW, by simp, H7.out, HN7.out, HX7.out, HB7.out⟩
              case measure => simp [intOf]; omega
          · have d1 : (bits BinOp.and IntKind.i64 (ah / 2 ^ K) 1 == 1) = true := hah
            obtain rfl : z = -1 := by rw [hv, hah]; rfl
            clear hv
            have hg : bitOf (bits BinOp.or IntKind.i64 bt ah) K = true := by rw [hor, hah, Bool.or_true]
            have d3 : (bits BinOp.and IntKind.i64 (bits BinOp.or IntKind.i64 bt ah / 2 ^ K) 1 == 1) = true := hg
            have HCU2 : Hid (s.cursor K = -1) := Lib.hid (by rw [HCU.out, hah, Bool.or_true]; rfl)
            have HLV2 : Hid (s.leaves K = false) := Lib.hid (by rw [HLV.out, hah, Bool.or_true]; rfl)
            clear hah hg hor
            go_wp2_with fail
            refine HOF.out.mono ?_
            rintro e w6 ⟨rfl, hb6⟩
            have H6 := Lib.hid (HAT.out.below hb6)
            have HB6 := Lib.hid (bl_then HBL.out hb6)
            have HX6 := Lib.hid ((hb6.block _ (block_lt HXB.out)).trans HXB.out)
            clear hb6
            go_wp2_with fail
            refine (logCursor H6.out K (-1) HCU2.out).mono ?_
            rintro e w6 ⟨rfl, rfl⟩
            go_wp2_with fail
            refine (logLeave H6.out K false HLV2.out s rfl).mono ?_
            rintro e w7 ⟨rfl, h7, o7⟩
            have H7 := Lib.hid h7
            have HB7 := Lib.hid (bl_only HB6.out o7 (fun i hi => by subst hi; exact HC.out.1))
            have HX7 := Lib.hid (o7.block HX6.out HXC.out)
            have HN7 : Hid (LvJ W (bitOf ah) (bitOf bt) s l (K + 1)) := Lib.hid (by have := HNX.out; rw [HLV2.out, if_neg Bool.false_ne_true] at this; exact this)
            clear h7 o7
            go_wp2_with fail
            go_roundw
            case rel => exact ⟨K + 1, _, hKW, by simp, H7.out, HN7.out, HX7.out, HB7.out⟩
            case measure => simp [intOf]; omega
        · obtain rfl : K = W := by omega
          clear hKW
          obtain ⟨l', hl'⟩ := HIN.out.done
          have HL' := Lib.hid hl'
          clear hl'
          go_wp2_with fail
          refine (logReply_yes HAT.out 0 HL'.out (c := ⟨4, 0⟩) (by rw [HIN.out.low]; exact HIN.out.look)).mono ?_
          rintro e w6 ⟨rfl, h6, o6⟩
          have H6 := Lib.hid h6
          have HB6 := Lib.hid (bl_only HBL.out o6 (fun i hi => Nat.le_trans HLO.out (own_lo HAT.out i hi)))
          have HLW : Hid (s.low = 0) := Lib.hid HIN.out.low
          clear h6 o6
          go_wp2_with fail
          refine (logLow H6.out).mono ?_
          rintro e w6 ⟨rfl, rfl⟩
          rw [show (s.replied 4 0).low = 1 by show s.low + 1 = 1; rw [HLW.out]]
          go_wp2_with fail
          go_ret
          exact ⟨rfl, HB6.out⟩
end Go.Proofs.Ytibbnikfecilhaa
