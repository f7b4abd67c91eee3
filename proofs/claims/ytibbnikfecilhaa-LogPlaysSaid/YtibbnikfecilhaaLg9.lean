/- Chapter 19: Reply, where it goes. (Printed by lggen.py.) -/
import Derived.Test.YtibbnikfecilhaaLg8
namespace Go.Proofs.Ytibbnikfecilhaa
open Go.RowKit
open Go.Maps (Keyed)
set_option linter.unusedVariables false
set_option linter.unusedSimpArgs false

theorem collect_some {s : LogS} {l : List (OutV × Int)} (h : s.collect = some l) : ∃ c, s.look s.low = some c ∧ anyWaits s c.kind = false ∧ l = (List.range s.cfg.sh).map s.told := by
  unfold LogS.collect at h
  cases hl : s.look s.low with
  | none => rw [hl] at h; cases h
  | some c =>
    rw [hl] at h
    dsimp only at h
    split at h
    · cases h
    · rename_i hw
      injection h with h
      exact ⟨c, rfl, by simpa using hw, h.symm⟩
theorem waits_no {s : LogS} {kd : Int} (h : anyWaits s kd = false) : ∀ i, i < s.cfg.sh → s.cur i = -1 ∨ (s.low : Int) < s.cur i := by
  intro i hi
  unfold anyWaits at h
  have h1 := of_decide_eq_false h
  by_cases hc : s.cur i = -1
  · exact .inl hc
  · right
    by_cases hl : s.cur i ≤ s.low
    · exact absurd ⟨i, hi, by unfold waitsB; rw [decide_eq_true hc, decide_eq_true hl]; rfl⟩ h1
    · omega
theorem replied_ok {s : LogS} (h : LogI s) {c : CmdV} (hl : s.look s.low = some c) (hw : anyWaits s c.kind = false) : LogI s.lowered := by
  have := look_some (s := s) (p := s.low) h (by rw [hl]; rfl)
  exact h.lowered (by omega) (waits_no hw)
theorem ptr_at {w : World} {lo m oc O : Nat} {b : LogB} (h : w.ownsRow lo 95 1 (.slice (some ⟨O, 0, none⟩) m oc) m (ptrCells b m)) {i : Nat} (hi : i < m) : w.cell? ⟨O, i, none⟩ = some (.pointer (some ⟨b.rw i, 0, none⟩)) := by
  obtain ⟨g', e, _, _, _, hc⟩ := own_some h (by omega)
  injection e with e
  injection e with e _ _
  subst e
  exact hc i _ (by simp [ptrCells, hi])
theorem ans_start {w w' : World} {lo L : Nat} {b : LogB} {s : LogS} (h : LogAt w lo L b s) (ho : Only (fun k => k = b.R ∨ k = b.B) w w') : AnsAt w' b.M s.low s.ans := by
  obtain ⟨an, D, h0', ⟨es, clock, h1, h2⟩, h3⟩ := h.ans.ex
  refine ⟨an, D, h0', ⟨es, clock, ho.block h1 ?_, h2⟩, h3⟩
  rintro (e | e)
  · rw [e, h.ring.hR] at h1; cases h1
  · rw [e, h.ring.hB] at h1; cases h1
theorem own_map {L : Nat} {b : LogB} {m k : Nat} (h : k = b.M) : Own L b m k := .inr (.inr (.inr (.inr (.inl h))))
theorem own_at {L : Nat} {b : LogB} {m I : Nat} (h : I < m) : ∀ k, (k = b.rw I ∨ k = b.bw I) → Own L b m k := fun k hk => .inr (.inr (.inr (.inr (.inr ⟨I, h, hk⟩))))
set_option maxHeartbeats 8000000 in
theorem logReply_yes {w : World} {lo L : Nat} {b : LogB} {s : LogS} (h : LogAt w lo L b s) (an : Int) {l : List (OutV × Int)} (hc : s.collect = some l) {c : CmdV} (hl : s.look s.low = some c) :
    Calls Try.prog 20 #[.pointer (some ⟨L, 0, none⟩), .agg #[.int .i64 0, .int .i64 an, .slice none 0 0]] w fun e w' => e = .returned (.bool true) ∧ LogAt w' lo L b (s.replied c.kind an) ∧ Only (Own L b s.cfg.sh) w w' := by
  obtain ⟨c', hl', hw, _⟩ := collect_some hc
  rw [hl] at hl'
  injection hl' with hl'
  subst hl'
  have hlow := replied_ok h.inv hl hw
  have hltail := (look_some (s := s) (p := s.low) h.inv (by rw [hl]; rfl)).2
  have htl := h.lowInt
  have hsh := h.inv.sh2
  have hb1 := bl_alloc (Below.refl _ w) (.cells #[.int .i64 0, .int .i64 an, .slice none 0 0] 58)
  have hz := alloc_new w (.cells #[.int .i64 0, .int .i64 an, .slice none 0 0] 58)
  have hrun := logCollect (h.below hb1) (some l) hc
  have HC : Hid (Calls Try.prog 17 #[.pointer (some ⟨L, 0, none⟩)] (w.alloc (.cells #[.int .i64 0, .int .i64 an, .slice none 0 0] 58)) fun e w' => ∃ X, e = .returned (.tuple #[.slice (some ⟨X, 0, none⟩) l.length l.length, .bool true]) ∧ Below (w.alloc (.cells #[.int .i64 0, .int .i64 an, .slice none 0 0] 58)).heap.size (w.alloc (.cells #[.int .i64 0, .int .i64 an, .slice none 0 0] 58)) w') := Lib.hid (hrun.mono fun e w' ⟨X, h1, _, _, h2⟩ => ⟨X, h1, h2⟩)
  have HB1 := Lib.hid hb1
  have HZ := Lib.hid hz
  have HLOW := Lib.hid fun W (hW : Below w.heap.size w W) => logLow (h.below hW)
  have hdrop : ∀ W, Below w.heap.size w W → Calls Try.prog 44 #[.pointer (some ⟨b.R, 0, none⟩)] W fun e W' => e = .returned (.tuple #[.agg c.cells.toArray, .bool true]) ∧ RepAt W' lo L b s s.ans 0 ∧ AnsAt W' b.M s.low s.ans ∧ Only (fun k => k = b.R ∨ k = b.B) W W' := fun W hW => by
    have hh := h.below hW
    have hg : cget (ringOf CmdV.zero s.low s.cfg.inb s.cmd) s.low s.low = (c, true) := by rw [look_get hh.inv, hl]; rfl
    have hd := cdrop_yes hh.ring (by unfold cdrops; rw [hg]; simp only [Bool.true_and]; exact decide_eq_true (by omega))
    rw [hg, cdrop_of (by have := hh.inv.inb1; omega) (hh.inv.cmd _ hh.inv.room)] at hd
    refine hd.mono ?_
    rintro e W' ⟨h1, h2, h3⟩
    exact ⟨h1, RepAt.start hh (by simpa using h2) h3, ans_start hh h3, h3⟩
  have HDROP := Lib.hid hdrop
  have HH := Lib.hid h
  clear h hb1 hz hrun hdrop hl hw hc
  obtain ⟨kd, nn⟩ := c
  have c11 : ∀ W, Below w.heap.size w W → W.cell? ⟨L, 11, none⟩ = some (.pointer (some ⟨b.R, 0, none⟩)) := fun W hW => lgCell (HH.out.below hW) 11
  have C11 := Lib.hid c11
  clear c11
  go_enter Try.func20, Try.ntmps20
  go_wp2_with fail
  refine HC.out.mono ?_
  rintro e w2 ⟨X, rfl, hb2⟩
  have hb02 := bl_then HB1.out hb2
  have hz2 := (hb2.block _ (block_lt HZ.out)).trans HZ.out
  have HB2 := Lib.hid hb02
  have HZ2 := Lib.hid hz2
  clear hb2 hb02 hz2
  go_wp2_with fail
  refine (HLOW.out _ HB2.out).mono ?_
  rintro e w' ⟨rfl, rfl⟩
  have d11 := C11.out _ HB2.out
  go_wp2_with fail
  refine (HDROP.out _ HB2.out).mono ?_
  rintro e w3 ⟨rfl, hrep3, hans3, ho3⟩
  have hz3 := ho3.block HZ2.out (by rintro (e | e); exact absurd e (blk_ne HZ2.out (HH.out.below HB2.out).ring.hR (by decide)); exact absurd e (blk_ne HZ2.out (HH.out.below HB2.out).ring.hB (by decide)))
  have ho03 : Only (Own L b s.cfg.sh) w w3 := (Only.of_below HB2.out).trans (ho3.mono (fun k hk => hk.elim (fun e => .inr (.inl e)) (fun e => .inr (.inr (.inl e)))))
  have hrep4 := hrep3.below (bl_alloc (Below.refl _ _) (.cells #[.int .i64 kd, .int .i64 0, .int .i64 nn, .int .i64 0, .int .i64 0, .int .i64 0, .int .i64 0, .int .i64 0, .int .i64 0, .int .i64 0, .int .i64 0, .slice none 0 0, .int .i64 0, .bool false] 39))
  have hz4 := alloc_old hz3 (.cells #[.int .i64 kd, .int .i64 0, .int .i64 nn, .int .i64 0, .int .i64 0, .int .i64 0, .int .i64 0, .int .i64 0, .int .i64 0, .int .i64 0, .int .i64 0, .slice none 0 0, .int .i64 0, .bool false] 39)
  have ho04 := ho03.alloc (.cells #[.int .i64 kd, .int .i64 0, .int .i64 nn, .int .i64 0, .int .i64 0, .int .i64 0, .int .i64 0, .int .i64 0, .int .i64 0, .int .i64 0, .int .i64 0, .slice none 0 0, .int .i64 0, .bool false] 39)
  have hx4 := alloc_new w3 (.cells #[.int .i64 kd, .int .i64 0, .int .i64 nn, .int .i64 0, .int .i64 0, .int .i64 0, .int .i64 0, .int .i64 0, .int .i64 0, .int .i64 0, .int .i64 0, .slice none 0 0, .int .i64 0, .bool false] 39)
  have x0 : (w3.alloc (.cells #[.int .i64 kd, .int .i64 0, .int .i64 nn, .int .i64 0, .int .i64 0, .int .i64 0, .int .i64 0, .int .i64 0, .int .i64 0, .int .i64 0, .int .i64 0, .slice none 0 0, .int .i64 0, .bool false] 39)).cell? ⟨w3.heap.size, 0, none⟩ = some (.int .i64 kd) := cell_of_blk (cs := [.int .i64 kd, .int .i64 0, .int .i64 nn, .int .i64 0, .int .i64 0, .int .i64 0, .int .i64 0, .int .i64 0, .int .i64 0, .int .i64 0, .int .i64 0, .slice none 0 0, .int .i64 0, .bool false]) hx4 0
  have d14 : (w3.alloc (.cells #[.int .i64 kd, .int .i64 0, .int .i64 nn, .int .i64 0, .int .i64 0, .int .i64 0, .int .i64 0, .int .i64 0, .int .i64 0, .int .i64 0, .int .i64 0, .slice none 0 0, .int .i64 0, .bool false] 39)).cell? ⟨L, 14, none⟩ = some (.map (some b.M)) := cell_of_blk (cs := lgCells b s) hrep4.hL 14
  have d13 : (w3.alloc (.cells #[.int .i64 kd, .int .i64 0, .int .i64 nn, .int .i64 0, .int .i64 0, .int .i64 0, .int .i64 0, .int .i64 0, .int .i64 0, .int .i64 0, .int .i64 0, .slice none 0 0, .int .i64 0, .bool false] 39)).cell? ⟨L, 13, none⟩ = some (.slice (some ⟨b.O, 0, none⟩) s.cfg.sh b.oc) := cell_of_blk (cs := lgCells b s) hrep4.hL 13
  have a0 : (w3.alloc (.cells #[.int .i64 kd, .int .i64 0, .int .i64 nn, .int .i64 0, .int .i64 0, .int .i64 0, .int .i64 0, .int .i64 0, .int .i64 0, .int .i64 0, .int .i64 0, .slice none 0 0, .int .i64 0, .bool false] 39)).cell? ⟨w.heap.size, 0, none⟩ = some (.int .i64 0) := cell_of_blk (cs := [.int .i64 0, .int .i64 an, .slice none 0 0]) hz4 0
  have a1 : (w3.alloc (.cells #[.int .i64 kd, .int .i64 0, .int .i64 nn, .int .i64 0, .int .i64 0, .int .i64 0, .int .i64 0, .int .i64 0, .int .i64 0, .int .i64 0, .int .i64 0, .slice none 0 0, .int .i64 0, .bool false] 39)).cell? ⟨w.heap.size, 1, none⟩ = some (.int .i64 an) := cell_of_blk (cs := [.int .i64 0, .int .i64 an, .slice none 0 0]) hz4 1
  have a2 : (w3.alloc (.cells #[.int .i64 kd, .int .i64 0, .int .i64 nn, .int .i64 0, .int .i64 0, .int .i64 0, .int .i64 0, .int .i64 0, .int .i64 0, .int .i64 0, .int .i64 0, .slice none 0 0, .int .i64 0, .bool false] 39)).cell? ⟨w.heap.size, 2, none⟩ = some (.slice none 0 0) := cell_of_blk (cs := [.int .i64 0, .int .i64 an, .slice none 0 0]) hz4 2
  have HREP4 := Lib.hid hrep4
  have HO4 := Lib.hid ho04
  have HANS4 := Lib.hid (hans3.keptT (w' := w3.alloc (.cells #[.int .i64 kd, .int .i64 0, .int .i64 nn, .int .i64 0, .int .i64 0, .int .i64 0, .int .i64 0, .int .i64 0, .int .i64 0, .int .i64 0, .int .i64 0, .slice none 0 0, .int .i64 0, .bool false] 39)) (fun k o hk _ => alloc_old hk _))
  clear hrep3 hans3 ho3 hz3 ho03 hrep4 hz4 ho04 hx4
  simp only [CmdV.cells]
  by_cases hk1 : kd = 1
  · subst hk1
    go_wp2_with fail
    go_loopw [45] (fun i wr => ∃ I : Nat, I ≤ s.cfg.sh ∧ i = .int .i64 I ∧ RepAt wr lo L b s s.ans I ∧ Only (Own L b s.cfg.sh) w wr) (fun i _ => s.cfg.sh - (intOf i).toNat)
    case atStart => exact ⟨0, Nat.zero_le _, rfl, HREP4.out, HO4.out⟩
    case round =>
      obtain ⟨I, hI, rfl, hr, ho⟩ := hrel
      by_cases hlt : I < s.cfg.sh
      · have iI : (I : Int) < s.cfg.sh := by omega
        have cOI := ptr_at hr.outs hlt
        have hcalls := hr.calls HH.out.inv hlt wr (Below.refl _ _)
        have hown : ∀ W W', Only (fun k => k = b.rw I ∨ k = b.bw I) W W' → Only (Own L b s.cfg.sh) W W' := fun W W' h => h.mono (own_at hlt)
        have HOWN := Lib.hid hown
        have HO := Lib.hid ho
        clear hr ho hown
        rcases hcalls with ⟨⟨la, ln, lc⟩, hx⟩ | hx
        · have HX := Lib.hid hx
          clear hx
          go_wp2_with fail
          refine HX.out.mono ?_
          rintro e w5 ⟨rfl, h5, ho5⟩
          have h6 := h5.below (bl_alloc (Below.refl _ _) (.cells #[.slice none 0 0, .slice la ln lc, .slice none 0 0, .slice none 0 0] 47))
          have o6 := (HO.out.trans (HOWN.out _ _ ho5)).alloc (.cells #[.slice none 0 0, .slice la ln lc, .slice none 0 0, .slice none 0 0] 47)
          have H6 := Lib.hid h6
          have O6 := Lib.hid o6
          clear h5 h6 o6 ho5
          simp only [OutV.cells]
          go_wp2_with fail
          go_roundw
          case rel => exact ⟨I + 1, hlt, by simp, H6.out, O6.out⟩
          case measure => simp [intOf]; omega
        · have HX := Lib.hid hx
          clear hx
          go_wp2_with fail
          refine HX.out.mono ?_
          rintro e w5 ⟨rfl, hb5, hput⟩
          have HP := Lib.hid (hput _ (bl_alloc (Below.refl _ w5) (.cells #[.slice none 0 0, .slice none 0 0, .slice none 0 0, .slice none 0 0] 47)))
          have O5 := Lib.hid ((HO.out.trans (Only.of_below hb5)).alloc (.cells #[.slice none 0 0, .slice none 0 0, .slice none 0 0, .slice none 0 0] 47))
          clear hb5 hput
          go_wp2_with fail
          refine HP.out.mono ?_
          rintro e w6 ⟨rfl, hd⟩
          have HD := Lib.hid hd
          clear hd
          go_wp2_with fail
          refine HD.out.mono ?_
          rintro e w7 ⟨⟨v, rfl⟩, h7, o7⟩
          have H7 := Lib.hid h7
          have O7 := Lib.hid (O5.out.trans (HOWN.out _ _ o7))
          clear h7 o7
          go_wp2_with fail
          go_roundw
          case rel => exact ⟨I + 1, hlt, by simp, H7.out, O7.out⟩
          case measure => simp [intOf]; omega
      · obtain rfl : I = s.cfg.sh := by omega
        have iI : ¬ (s.cfg.sh : Int) < s.cfg.sh := by omega
        have hf := hr.all hlow HH.out.lo
        have hfin : LogAt wr lo L b (s.replied 1 an) ∧ Only (Own L b s.cfg.sh) w wr := by
          refine ⟨?_, ho⟩
          rw [show s.replied 1 an = { s.lowered with ans := s.ans } by simp [LogS.replied, LogS.answered, LogS.lowered]]
          exact hf
        have HF := Lib.hid hfin
        clear hr ho hf hfin
        go_wp2_with fail
        go_ret
        exact ⟨rfl, HF.out⟩
  · have e1 : (kd != 1) = true := by simpa using hk1
    have hb5 := bl_drew (Below.refl _ (w3.alloc (.cells #[.int .i64 kd, .int .i64 0, .int .i64 nn, .int .i64 0, .int .i64 0, .int .i64 0, .int .i64 0, .int .i64 0, .int .i64 0, .int .i64 0, .int .i64 0, .slice none 0 0, .int .i64 0, .bool false] 39)))
    have hrep5 := HREP4.out.below hb5
    obtain ⟨w6, hmu, ha6, ho6⟩ := ans_store (HANS4.out.keptT (fun k o hk _ => (hb5.block k (block_lt hk)).trans hk)) (key := s.low) (z := an) (by omega) (by omega)
    have hrep6 := hrep5.ansd _ ha6 ho6
    have ho06 := (HO4.out.trans (Only.of_below hb5)).trans (ho6.mono (fun k hk => own_map hk))
    have e13 : w6.cell? ⟨L, 13, none⟩ = some (.slice (some ⟨b.O, 0, none⟩) s.cfg.sh b.oc) := cell_of_blk (cs := lgCells b s) hrep6.hL 13
    have HREP6 := Lib.hid hrep6
    have HO6 := Lib.hid ho06
    clear hb5 hrep5 ha6 ho6 hrep6 ho06
    go_wp2_with fail
    go_region_law (fail)
    all_goals
      go_wp2_with fail
      go_loopw [45] (fun i wr => ∃ I : Nat, I ≤ s.cfg.sh ∧ i = .int .i64 I ∧ RepAt wr lo L b s (fun k => if k = (s.low : Int) then some an else s.ans k) I ∧ Only (Own L b s.cfg.sh) w wr) (fun i _ => s.cfg.sh - (intOf i).toNat)
      case atStart => exact ⟨0, Nat.zero_le _, rfl, HREP6.out, HO6.out⟩
      case round =>
        obtain ⟨I, hI, rfl, hr, ho⟩ := hrel
        by_cases hlt : I < s.cfg.sh
        · have iI : (I : Int) < s.cfg.sh := by omega
          have cOI := ptr_at hr.outs hlt
          have hcalls := hr.calls HH.out.inv hlt wr (Below.refl _ _)
          have hown : ∀ W W', Only (fun k => k = b.rw I ∨ k = b.bw I) W W' → Only (Own L b s.cfg.sh) W W' := fun W W' h => h.mono (own_at hlt)
          have HOWN := Lib.hid hown
          have HO := Lib.hid ho
          clear hr ho hown
          rcases hcalls with ⟨⟨la, ln, lc⟩, hx⟩ | hx
          · have HX := Lib.hid hx
            clear hx
            go_wp2_with fail
            refine HX.out.mono ?_
            rintro e w5 ⟨rfl, h5, ho5⟩
            have h6 := h5.below (bl_alloc (Below.refl _ _) (.cells #[.slice none 0 0, .slice la ln lc, .slice none 0 0, .slice none 0 0] 47))
            have o6 := (HO.out.trans (HOWN.out _ _ ho5)).alloc (.cells #[.slice none 0 0, .slice la ln lc, .slice none 0 0, .slice none 0 0] 47)
            have H6 := Lib.hid h6
            have O6 := Lib.hid o6
            clear h5 h6 o6 ho5
            simp only [OutV.cells]
            go_wp2_with fail
            go_roundw
            case rel => exact ⟨I + 1, hlt, by simp, H6.out, O6.out⟩
            case measure => simp [intOf]; omega
          · have HX := Lib.hid hx
            clear hx
            go_wp2_with fail
            refine HX.out.mono ?_
            rintro e w5 ⟨rfl, hb5, hput⟩
            have HP := Lib.hid (hput _ (bl_alloc (Below.refl _ w5) (.cells #[.slice none 0 0, .slice none 0 0, .slice none 0 0, .slice none 0 0] 47)))
            have O5 := Lib.hid ((HO.out.trans (Only.of_below hb5)).alloc (.cells #[.slice none 0 0, .slice none 0 0, .slice none 0 0, .slice none 0 0] 47))
            clear hb5 hput
            go_wp2_with fail
            refine HP.out.mono ?_
            rintro e w6 ⟨rfl, hd⟩
            have HD := Lib.hid hd
            clear hd
            go_wp2_with fail
            refine HD.out.mono ?_
            rintro e w7 ⟨⟨v, rfl⟩, h7, o7⟩
            have H7 := Lib.hid h7
            have O7 := Lib.hid (O5.out.trans (HOWN.out _ _ o7))
            clear h7 o7
            go_wp2_with fail
            go_roundw
            case rel => exact ⟨I + 1, hlt, by simp, H7.out, O7.out⟩
            case measure => simp [intOf]; omega
        · obtain rfl : I = s.cfg.sh := by omega
          have iI : ¬ (s.cfg.sh : Int) < s.cfg.sh := by omega
          have hf := hr.all hlow HH.out.lo
          have hfin : LogAt wr lo L b (s.replied kd an) ∧ Only (Own L b s.cfg.sh) w wr := by
            refine ⟨?_, ho⟩
            rw [show s.replied kd an = { s.lowered with ans := (fun k => if k = (s.low : Int) then some an else s.ans k) } by simp only [LogS.replied, LogS.answered, LogS.lowered, if_neg hk1]]
            exact hf
          have HF := Lib.hid hfin
          clear hr ho hf hfin
          go_wp2_with fail
          go_ret
          exact ⟨rfl, HF.out⟩
end Go.Proofs.Ytibbnikfecilhaa
