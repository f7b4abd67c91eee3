/- Chapter 19: New. (Printed by lggen.py.) -/
import Derived.Test.YtibbnikfecilhaaLgM
namespace Go.Proofs.Ytibbnikfecilhaa
open Go.RowKit
set_option linter.unusedVariables false
set_option linter.unusedSimpArgs false

set_option maxRecDepth 20000 in
set_option maxHeartbeats 16000000 in
theorem newLog {w : World} (c : CfgV) (hc : c.asI.rightB = true) :
    Calls Try.prog 11 #[.agg #[.int .i64 c.sh, .int .i64 c.inb, .int .i64 c.sl, .int .i64 c.qu, .int .i64 c.ru, .int .i64 c.ou, .int .i64 c.st]] w fun e w' => ∃ L b, e = .returned (.pointer (some ⟨L, 0, none⟩)) ∧ LogAt w' w.heap.size L b (LogS.init c) ∧ Below w.heap.size w w' := by
  obtain ⟨⟨s1, s2⟩, ⟨n1, n2⟩, ⟨l1, l2⟩, ⟨t1, t2⟩⟩ := rightB_all hc
  obtain ⟨sh, inb, sl, qu, ru, ou, st⟩ := c
  simp only [CfgV.asI] at s1 s2 n1 n2 l1 l2 t1 t2
  have HS : Hid ((1 : Int) ≤ sh ∧ (sh : Int) ≤ 15 ∧ (1 : Int) ≤ inb ∧ (inb : Int) ≤ 4096 ∧ 1 ≤ st ∧ st ≤ 1099511627776) := Lib.hid ⟨s1, s2, n1, n2, t1, t2⟩
  obtain ⟨sln, rfl⟩ : ∃ sln : Nat, sl = sln := ⟨sl.toNat, by omega⟩
  have hb1 := bl_alloc (Below.refl _ w) (.cells #[.int .i64 sh, .int .i64 inb, .int .i64 sln, .int .i64 qu, .int .i64 ru, .int .i64 ou, .int .i64 st] 27)
  have hz := alloc_new w (.cells #[.int .i64 sh, .int .i64 inb, .int .i64 sln, .int .i64 qu, .int .i64 ru, .int .i64 ou, .int .i64 st] 27)
  have HR := Lib.hid fun W => right_any ⟨sh, inb, sln, qu, ru, ou, st⟩ W true hc
  have HST := Lib.hid fun W => storeNew sln W (by omega) (by omega)
  have hep : ∀ W, Calls Try.prog 36 #[.int .i64 (IntKind.i64.wrap ((sh : Int) + 1))] W fun e w' => ∃ a, e = .returned (.pointer (some a)) ∧ Below W.heap.size W w' := fun W => by
    have h := epochNew (sh + 1) W (by omega) (by omega)
    rwa [show ((sh + 1 : Nat) : Int) = IntKind.i64.wrap ((sh : Int) + 1) from ((IntWalk.i64_in _ (by omega)).trans (by omega)).symm] at h
  have HEP := Lib.hid hep
  have HCN := Lib.hid fun W => cnew_yes inb W (by omega) (by omega)
  have HON := Lib.hid fun W => onew_yes inb W (by omega) (by omega)
  have HB1 := Lib.hid hb1
  have HZ := Lib.hid hz
  have x0 : (w.alloc (.cells #[.int .i64 sh, .int .i64 inb, .int .i64 sln, .int .i64 qu, .int .i64 ru, .int .i64 ou, .int .i64 st] 27)).cell? ⟨w.heap.size, 0, none⟩ = some (.int .i64 sh) := cell_of_blk (cs := [.int .i64 sh, .int .i64 inb, .int .i64 sln, .int .i64 qu, .int .i64 ru, .int .i64 ou, .int .i64 st]) hz 0
  have x1 : (w.alloc (.cells #[.int .i64 sh, .int .i64 inb, .int .i64 sln, .int .i64 qu, .int .i64 ru, .int .i64 ou, .int .i64 st] 27)).cell? ⟨w.heap.size, 1, none⟩ = some (.int .i64 inb) := cell_of_blk (cs := [.int .i64 sh, .int .i64 inb, .int .i64 sln, .int .i64 qu, .int .i64 ru, .int .i64 ou, .int .i64 st]) hz 1
  have x2 : (w.alloc (.cells #[.int .i64 sh, .int .i64 inb, .int .i64 sln, .int .i64 qu, .int .i64 ru, .int .i64 ou, .int .i64 st] 27)).cell? ⟨w.heap.size, 2, none⟩ = some (.int .i64 sln) := cell_of_blk (cs := [.int .i64 sh, .int .i64 inb, .int .i64 sln, .int .i64 qu, .int .i64 ru, .int .i64 ou, .int .i64 st]) hz 2
  have x3 : (w.alloc (.cells #[.int .i64 sh, .int .i64 inb, .int .i64 sln, .int .i64 qu, .int .i64 ru, .int .i64 ou, .int .i64 st] 27)).cell? ⟨w.heap.size, 3, none⟩ = some (.int .i64 qu) := cell_of_blk (cs := [.int .i64 sh, .int .i64 inb, .int .i64 sln, .int .i64 qu, .int .i64 ru, .int .i64 ou, .int .i64 st]) hz 3
  have x4 : (w.alloc (.cells #[.int .i64 sh, .int .i64 inb, .int .i64 sln, .int .i64 qu, .int .i64 ru, .int .i64 ou, .int .i64 st] 27)).cell? ⟨w.heap.size, 4, none⟩ = some (.int .i64 ru) := cell_of_blk (cs := [.int .i64 sh, .int .i64 inb, .int .i64 sln, .int .i64 qu, .int .i64 ru, .int .i64 ou, .int .i64 st]) hz 4
  have x5 : (w.alloc (.cells #[.int .i64 sh, .int .i64 inb, .int .i64 sln, .int .i64 qu, .int .i64 ru, .int .i64 ou, .int .i64 st] 27)).cell? ⟨w.heap.size, 5, none⟩ = some (.int .i64 ou) := cell_of_blk (cs := [.int .i64 sh, .int .i64 inb, .int .i64 sln, .int .i64 qu, .int .i64 ru, .int .i64 ou, .int .i64 st]) hz 5
  have x6 : (w.alloc (.cells #[.int .i64 sh, .int .i64 inb, .int .i64 sln, .int .i64 qu, .int .i64 ru, .int .i64 ou, .int .i64 st] 27)).cell? ⟨w.heap.size, 6, none⟩ = some (.int .i64 st) := cell_of_blk (cs := [.int .i64 sh, .int .i64 inb, .int .i64 sln, .int .i64 qu, .int .i64 ru, .int .i64 ou, .int .i64 st]) hz 6
  clear hep hb1 hz hc s1 s2 n1 n2 l1 l2 t1 t2
  go_enter Try.func11, Try.ntmps11
  go_wp2_with fail
  refine (HR.out _).mono ?_
  rintro e w2 ⟨rfl, hb2⟩
  have hz2 := blk_below HZ.out hb2
  have hb02 := bl_then HB1.out hb2
  have HZ2 := Lib.hid hz2
  have HB2 := Lib.hid hb02
  have hx : ∀ w', Below w2.heap.size w2 w' → w'.cell? ⟨w.heap.size, 0, none⟩ = some (.int .i64 sh) ∧ w'.cell? ⟨w.heap.size, 1, none⟩ = some (.int .i64 inb) ∧ w'.cell? ⟨w.heap.size, 2, none⟩ = some (.int .i64 sln) ∧ w'.cell? ⟨w.heap.size, 3, none⟩ = some (.int .i64 qu) ∧ w'.cell? ⟨w.heap.size, 4, none⟩ = some (.int .i64 ru) ∧ w'.cell? ⟨w.heap.size, 5, none⟩ = some (.int .i64 ou) ∧ w'.cell? ⟨w.heap.size, 6, none⟩ = some (.int .i64 st) := fun w' hW => by
    have h := blk_below hz2 hW
    exact ⟨cell_of_blk (cs := [.int .i64 sh, .int .i64 inb, .int .i64 sln, .int .i64 qu, .int .i64 ru, .int .i64 ou, .int .i64 st]) h 0, cell_of_blk (cs := [.int .i64 sh, .int .i64 inb, .int .i64 sln, .int .i64 qu, .int .i64 ru, .int .i64 ou, .int .i64 st]) h 1, cell_of_blk (cs := [.int .i64 sh, .int .i64 inb, .int .i64 sln, .int .i64 qu, .int .i64 ru, .int .i64 ou, .int .i64 st]) h 2, cell_of_blk (cs := [.int .i64 sh, .int .i64 inb, .int .i64 sln, .int .i64 qu, .int .i64 ru, .int .i64 ou, .int .i64 st]) h 3, cell_of_blk (cs := [.int .i64 sh, .int .i64 inb, .int .i64 sln, .int .i64 qu, .int .i64 ru, .int .i64 ou, .int .i64 st]) h 4, cell_of_blk (cs := [.int .i64 sh, .int .i64 inb, .int .i64 sln, .int .i64 qu, .int .i64 ru, .int .i64 ou, .int .i64 st]) h 5, cell_of_blk (cs := [.int .i64 sh, .int .i64 inb, .int .i64 sln, .int .i64 qu, .int .i64 ru, .int .i64 ou, .int .i64 st]) h 6⟩
  have HX := Lib.hid hx
  have hmk : ∀ W : World, (Instr.makeSlice 44 (.int .i64 (sh : Int)) (.int .i64 (sh : Int))).run Try.prog W = .ok (.slice (some ⟨W.heap.size, 0, none⟩) sh sh) (W.alloc (.cells (List.replicate sh (Value.int .i64 0)).toArray 3)) := make_ints sh (by have := HS.out.2.1; omega)
  have hmm := @run_makeMap Try.prog
  have hsz2 := HB2.out.size
  clear hb2 hz2 hb02 hx
  go_wp2_with fail
  go_cut [3] (fun p wx => ∃ L R B C M st' ep, p = .pointer (some ⟨L, 0, none⟩) ∧ Made0 w wx w.heap.size ⟨sh, inb, sln, qu, ru, ou, st⟩ L R B C M st' ep)
  case first =>
    go_region_held3 (fun w' => w'.cell? ⟨w.heap.size, 0, none⟩ = some (.int .i64 sh) ∧ w'.cell? ⟨w.heap.size, 1, none⟩ = some (.int .i64 inb) ∧ w'.cell? ⟨w.heap.size, 2, none⟩ = some (.int .i64 sln) ∧ w'.cell? ⟨w.heap.size, 3, none⟩ = some (.int .i64 qu) ∧ w'.cell? ⟨w.heap.size, 4, none⟩ = some (.int .i64 ru) ∧ w'.cell? ⟨w.heap.size, 5, none⟩ = some (.int .i64 ou) ∧ w'.cell? ⟨w.heap.size, 6, none⟩ = some (.int .i64 st)) (exact HX.out _ (by first | with_reducible exact hb5 | with_reducible exact (bl_alloc hb5 _) | with_reducible exact (bl_alloc (bl_alloc hb5 _) _) | with_reducible exact (bl_alloc (bl_alloc (bl_alloc hb5 _) _) _) | with_reducible exact hb4 | with_reducible exact (bl_alloc hb4 _) | with_reducible exact (bl_alloc (bl_alloc hb4 _) _) | with_reducible exact (bl_alloc (bl_alloc (bl_alloc hb4 _) _) _) | with_reducible exact hb3 | with_reducible exact (bl_alloc hb3 _) | with_reducible exact (bl_alloc (bl_alloc hb3 _) _) | with_reducible exact (bl_alloc (bl_alloc (bl_alloc hb3 _) _) _) | with_reducible exact (bl_drew (Below.refl _ w2)) | with_reducible exact (bl_drew (bl_alloc (Below.refl _ w2) _)) | with_reducible exact (bl_drew (bl_alloc (bl_alloc (Below.refl _ w2) _) _)))) (first
      | (go_at_call 35; refine (HST.out _).mono ?_; rintro e w3 ⟨a3, rfl, hr3⟩; have hb3 := bl_then (w := w2) (by first | with_reducible exact hb5 | with_reducible exact (bl_alloc hb5 _) | with_reducible exact (bl_alloc (bl_alloc hb5 _) _) | with_reducible exact (bl_alloc (bl_alloc (bl_alloc hb5 _) _) _) | with_reducible exact hb4 | with_reducible exact (bl_alloc hb4 _) | with_reducible exact (bl_alloc (bl_alloc hb4 _) _) | with_reducible exact (bl_alloc (bl_alloc (bl_alloc hb4 _) _) _) | with_reducible exact hb3 | with_reducible exact (bl_alloc hb3 _) | with_reducible exact (bl_alloc (bl_alloc hb3 _) _) | with_reducible exact (bl_alloc (bl_alloc (bl_alloc hb3 _) _) _) | with_reducible exact (bl_drew (Below.refl _ w2)) | with_reducible exact (bl_drew (bl_alloc (Below.refl _ w2) _)) | with_reducible exact (bl_drew (bl_alloc (bl_alloc (Below.refl _ w2) _) _))) hr3)
      | (go_at_call 36; refine (HEP.out _).mono ?_; rintro e w4 ⟨a4, rfl, hr4⟩; have hb4 := bl_then (w := w2) (by first | with_reducible exact hb5 | with_reducible exact (bl_alloc hb5 _) | with_reducible exact (bl_alloc (bl_alloc hb5 _) _) | with_reducible exact (bl_alloc (bl_alloc (bl_alloc hb5 _) _) _) | with_reducible exact hb4 | with_reducible exact (bl_alloc hb4 _) | with_reducible exact (bl_alloc (bl_alloc hb4 _) _) | with_reducible exact (bl_alloc (bl_alloc (bl_alloc hb4 _) _) _) | with_reducible exact hb3 | with_reducible exact (bl_alloc hb3 _) | with_reducible exact (bl_alloc (bl_alloc hb3 _) _) | with_reducible exact (bl_alloc (bl_alloc (bl_alloc hb3 _) _) _) | with_reducible exact (bl_drew (Below.refl _ w2)) | with_reducible exact (bl_drew (bl_alloc (Below.refl _ w2) _)) | with_reducible exact (bl_drew (bl_alloc (bl_alloc (Below.refl _ w2) _) _))) hr4)
      | (go_at_call 37; refine (HCN.out _).mono ?_; rintro e w5 ⟨R5, B5, rfl, hR5, hB5, hc5, hr5⟩; have hb5 := bl_then (w := w2) (by first | with_reducible exact hb5 | with_reducible exact (bl_alloc hb5 _) | with_reducible exact (bl_alloc (bl_alloc hb5 _) _) | with_reducible exact (bl_alloc (bl_alloc (bl_alloc hb5 _) _) _) | with_reducible exact hb4 | with_reducible exact (bl_alloc hb4 _) | with_reducible exact (bl_alloc (bl_alloc hb4 _) _) | with_reducible exact (bl_alloc (bl_alloc (bl_alloc hb4 _) _) _) | with_reducible exact hb3 | with_reducible exact (bl_alloc hb3 _) | with_reducible exact (bl_alloc (bl_alloc hb3 _) _) | with_reducible exact (bl_alloc (bl_alloc (bl_alloc hb3 _) _) _) | with_reducible exact (bl_drew (Below.refl _ w2)) | with_reducible exact (bl_drew (bl_alloc (Below.refl _ w2) _)) | with_reducible exact (bl_drew (bl_alloc (bl_alloc (Below.refl _ w2) _) _))) hr5))
    all_goals
      go_wp2_with fail
      go_meet
      case rel =>
        have q3 := hr3.size
        have q4 := hr4.size
        have q5 := hr5.size
        have q6 := hR5
        have q7 := hB5
        simp only [World.size_alloc, size_drew] at q3 q4 q5 q6 q7
        refine' made0_mk (R := R5) (B := B5) (st := some a3) (ep := some a4) ?hL ?ring ?curs ?map ?bel ?lo ?box
        case hL => exact alloc_at (by simp; done) _
        case ring => first | exact cAt_below hc5 (bl_alloc (Below.refl _ w5) _) | exact cAt_below hc5 (bl_alloc (bl_alloc (Below.refl _ w5) _) _) | exact cAt_below hc5 (bl_alloc (bl_alloc (bl_alloc (Below.refl _ w5) _) _) _)
        case curs => repeat' (first | exact alloc_at (by simp; done) _ | with_reducible refine alloc_old ?_ _ | with_reducible refine drew_blk ?_ | with_reducible refine blk_below ?_ hr5 | with_reducible refine blk_below ?_ hr4 | with_reducible refine blk_below ?_ hr3)
        case map => repeat' (first | exact alloc_at (by simp; done) _ | with_reducible refine alloc_old ?_ _ | with_reducible refine drew_blk ?_ | with_reducible refine blk_below ?_ hr5 | with_reducible refine blk_below ?_ hr4 | with_reducible refine blk_below ?_ hr3)
        case bel => exact bl_then HB2.out (by first | with_reducible exact (bl_alloc hb5 _) | with_reducible exact (bl_alloc (bl_alloc hb5 _) _) | with_reducible exact (bl_alloc (bl_alloc (bl_alloc hb5 _) _) _))
        case lo => (refine ⟨?_, ?_, ?_, ?_, ?_⟩ <;> omega)
        case box => exact blk_below HZ2.out (by first | with_reducible exact (bl_alloc hb5 _) | with_reducible exact (bl_alloc (bl_alloc hb5 _) _) | with_reducible exact (bl_alloc (bl_alloc (bl_alloc hb5 _) _) _))
  case rest =>
    obtain ⟨L, R, B, C, M, st', ep, rfl, hm⟩ := hcut
    have hm0 := hm.start
    have HM0 := Lib.hid hm0
    obtain ⟨cfg, hcfg⟩ : ∃ cfg : CfgV, cfg = ⟨sh, inb, sln, qu, ru, ou, st⟩ := ⟨_, rfl⟩
    have x0w : wc.cell? ⟨w.heap.size, 0, none⟩ = some (.int .i64 sh) := cell_of_blk (cs := [.int .i64 sh, .int .i64 inb, .int .i64 sln, .int .i64 qu, .int .i64 ru, .int .i64 ou, .int .i64 st]) hm.box 0
    obtain ⟨i0, hi, hz0, hz1, hz2⟩ := info_parts infoPtr
    have hsh := HS.out.2.1
    have hinb := HS.out.2.2.1
    clear hm hm0 hmk x0 x1 x2 x3 x4 x5 x6 HX hcfg
    go_wp2_with fail
    go_loopw [27] (fun i wr => ∃ (I : Nat) (v : Value) (rw bw : Nat → Nat), I ≤ sh ∧ i = .int .i64 I ∧ MadeI w wr w.heap.size ⟨sh, inb, sln, qu, ru, ou, st⟩ L R B C M st' ep I v rw bw) (fun i _ => sh - (intOf i).toNat)
    case atStart => exact ⟨0, _, _, _, Nat.zero_le _, rfl, HM0.out⟩
    case round =>
      obtain ⟨I, v, rw, bw, hI, rfl, hm⟩ := hrel
      by_cases hlt : I < sh
      · have iI : (I : Int) < sh := by omega
        obtain ⟨A, cp, rfl⟩ := own_form hm.row
        have HM := Lib.hid hm
        have c13 : wr.cell? ⟨L, 13, none⟩ = some (.slice A I cp) := cell_of_blk (cs := newCells ⟨sh, inb, sln, qu, ru, ou, st⟩ st' ep R C M (.slice A I cp)) hm.hL 13
        have y1 : wr.cell? ⟨w.heap.size, 1, none⟩ = some (.int .i64 inb) := cell_of_blk (cs := [.int .i64 sh, .int .i64 inb, .int .i64 sln, .int .i64 qu, .int .i64 ru, .int .i64 ou, .int .i64 st]) hm.box 1
        have yd : wr.drew.cell? ⟨w.heap.size, 1, none⟩ = some (.int .i64 inb) := y1
        have cd13 : wr.drew.cell? ⟨L, 13, none⟩ = some (.slice A I cp) := c13
        have step : ∀ w5 R5 B5, wr.heap.size ≤ R5 → wr.heap.size ≤ B5 → oAt w5 R5 B5 inb 0 (List.replicate inb (OutV.zero, false)) → Below wr.heap.size wr.drew w5 →
            MadeI w (w5.alloc (.cells #[.pointer (some ⟨R5, 0, none⟩)] 95)) w.heap.size ⟨sh, inb, sln, qu, ru, ou, st⟩ L R B C M st' ep I (.slice A I cp) rw bw ∧ oAt (w5.alloc (.cells #[.pointer (some ⟨R5, 0, none⟩)] 95)) R5 B5 inb 0 (List.replicate inb (OutV.zero, false)) ∧
            (w.heap.size ≤ R5 ∧ w.heap.size ≤ B5) ∧ (∀ i, i < I → rw i < R5 ∧ bw i < B5) ∧ w5.cell? ⟨L, 13, none⟩ = some (.slice A I cp) ∧ (w5.alloc (.cells #[.pointer (some ⟨R5, 0, none⟩)] 95)).cell? ⟨L, 13, none⟩ = some (.slice A I cp) ∧ w.heap.size ≤ w5.heap.size ∧ w5.cell? ⟨w.heap.size, 1, none⟩ = some (.int .i64 inb) ∧
            (w5.alloc (.cells #[.pointer (some ⟨R5, 0, none⟩)] 95)).heap[w5.heap.size]? = some (.cells #[.pointer (some ⟨R5, 0, none⟩)] 95 (0, 0)) := fun w5 R5 B5 h1 h2 h3 h4 => by
          have hb : Below wr.heap.size wr w5 := (bl_drew (Below.refl _ wr)).trans h4
          have hw := hm.bel.size
          have hm5 := hm.below hb
          have hm6 := hm5.below (bl_alloc (Below.refl _ _) (.cells #[.pointer (some ⟨R5, 0, none⟩)] 95))
          refine ⟨hm6, h3.below (bl_alloc (Below.refl _ _) _), ⟨by omega, by omega⟩, fun i hi => ?_, cell_of_blk (cs := newCells ⟨sh, inb, sln, qu, ru, ou, st⟩ st' ep R C M (.slice A I cp)) hm5.hL 13, cell_of_blk (cs := newCells ⟨sh, inb, sln, qu, ru, ou, st⟩ st' ep R C M (.slice A I cp)) hm6.hL 13, Nat.le_trans hw hb.size, cell_of_blk (cs := [.int .i64 sh, .int .i64 inb, .int .i64 sln, .int .i64 qu, .int .i64 ru, .int .i64 ou, .int .i64 st]) hm5.box 1, alloc_new _ _⟩
          have k1 := block_lt (hm.rgs i hi).hR
          have k2 := block_lt (hm.rgs i hi).hB
          omega
        have STEP := Lib.hid step
        clear hm step
        go_wp2_with fail
        refine wp_region_held_drew (S := fun w' => w'.cell? ⟨w.heap.size, 1, none⟩ = some (.int .i64 inb)) (by kernel_rfl) yd (fun hHeld => ?_)
        refine' wpAnyH_take (i := 0) (oi := ⟨some 29, _, _, _, _, _⟩) (v := ?v1) rfl (by kernel_rfl) (by kernel_rfl) (by kernel_rfl) (fun _ _ _ h => h) (Or.inl ⟨by rfl, ?hy1⟩) hHeld ?rest1
        case hy1 => (intro W hSw; go_simp; first | done | with_reducible rfl)
        simp only [Act.put, List.setIfInBounds_toArray, List.set_cons_zero, List.set_cons_succ]
        refine' wpAnyH_take (i := 1) (oi := ⟨some 30, _, _, _, _, _⟩) (v := ?v2) rfl (by kernel_rfl) (by kernel_rfl) (by kernel_rfl) (fun _ _ _ h => h) (Or.inl ⟨by rfl, ?hy2⟩) hHeld ?rest2
        case hy2 => (intro W hSw; go_simp; first | done | with_reducible rfl)
        simp only [Act.put, List.setIfInBounds_toArray, List.set_cons_zero, List.set_cons_succ]
        refine' wpAnyH_take (i := 2) (oi := ⟨some 31, _, _, _, _, _⟩) (v := ?v3) rfl (by kernel_rfl) (by kernel_rfl) (by kernel_rfl) (fun _ _ _ h => h) (Or.inl ⟨by rfl, ?hy3⟩) hHeld ?rest3
        case hy3 => (intro W hSw; go_simp; first | done | with_reducible rfl)
        simp only [Act.put, List.setIfInBounds_toArray, List.set_cons_zero, List.set_cons_succ]
        refine' wpAnyH_take (i := 3) (oi := ⟨some 32, _, _, _, _, _⟩) (v := ?v4) rfl (by kernel_rfl) (by kernel_rfl) (by kernel_rfl) (fun _ _ _ h => h) (Or.inl ⟨by rfl, ?hy4⟩) hHeld ?rest4
        case hy4 => (intro W hSw; go_simp; first | done | with_reducible rfl)
        simp only [Act.put, List.setIfInBounds_toArray, List.set_cons_zero, List.set_cons_succ]
        refine' wpAnyH_take (i := 5) (oi := ⟨some 34, _, _, _, _, _⟩) (v := ?v5) rfl (by kernel_rfl) (by kernel_rfl) (by kernel_rfl) (fun _ _ _ h => h) (Or.inl ⟨by rfl, ?hy5⟩) hHeld ?rest5
        case hy5 => (intro W hSw; go_simp; first | done | with_reducible rfl)
        simp only [Act.put, List.setIfInBounds_toArray, List.set_cons_zero, List.set_cons_succ]
        refine' wpAnyH_take (i := 6) (oi := ⟨some 35, _, _, _, _, _⟩) (v := ?v6) rfl (by kernel_rfl) (by kernel_rfl) (by kernel_rfl) (fun _ _ _ h => h) (Or.inl ⟨by rfl, ?hy6⟩) hHeld ?rest6
        case hy6 => (intro W hSw; go_simp; first | done | with_reducible rfl)
        simp only [Act.put, List.setIfInBounds_toArray, List.set_cons_zero, List.set_cons_succ]
        refine wpAnyH_ready (rs := [4, 7]) (by kernel_rfl) (by simp) ?_
        refine AllReadyH.cons (o := ⟨some 33, _, _, _, _, _⟩) rfl (fun K hK => ?_) (AllReadyH.cons (o := ⟨some 36, _, _, _, _, _⟩) rfl (fun K hK => ?_) AllReadyH.nil)
        · go_simp
          refine hK.out _ _ hHeld (fun hHeld => ?_)
          clear hK K
          try simp only [Act.put, List.setIfInBounds_toArray, List.set_cons_zero, List.set_cons_succ]
          refine wpAnyH_ready (rs := [7]) (by kernel_rfl) (by simp) ?_
          refine AllReadyH.cons (o := ⟨some 36, _, _, _, _, _⟩) rfl (fun K hK => ?_) AllReadyH.nil
          go_simp
          refine (HON.out _).mono ?_
          rintro e w5 ⟨R5, B5, rfl, hR5, hB5, hc5, hr5⟩
          obtain ⟨g1, g2, g3, g4, g5, g6, g7, y5, g8⟩ := STEP.out w5 R5 B5 hR5 hB5 hc5 hr5
          have y6 : (w5.alloc (.cells #[.pointer (some ⟨R5, 0, none⟩)] 95)).cell? ⟨w.heap.size, 1, none⟩ = some (.int .i64 inb) := cell_of_blk (cs := [.int .i64 sh, .int .i64 inb, .int .i64 sln, .int .i64 qu, .int .i64 ru, .int .i64 ou, .int .i64 st]) g1.box 1
          have G1 := Lib.hid g1
          have G2 := Lib.hid g2
          have G3 := Lib.hid g3
          have G4 := Lib.hid g4
          have G8 := Lib.hid g8
          clear hc5 hr5 g1 g2 g4 g8
          refine hK.out _ _ y5 (fun hHeld => ?_)
          clear hK K
          try simp only [Act.put, List.setIfInBounds_toArray, List.set_cons_zero, List.set_cons_succ]
          refine wpAnyH_ready (rs := [8]) (by kernel_rfl) (by simp) ?_
          refine AllReadyH.cons (o := ⟨some 37, _, _, _, _, _⟩) rfl (fun K hK => ?_) AllReadyH.nil
          go_simp
          refine hK.out _ _ y6 (fun hHeld => ?_)
          clear hK K
          try simp only [Act.put, List.setIfInBounds_toArray, List.set_cons_zero, List.set_cons_succ]
          refine wpAnyH_ready (rs := [9]) (by kernel_rfl) (by simp) ?_
          refine AllReadyH.cons (o := ⟨some 38, _, _, _, _, _⟩) rfl (fun K hK => ?_) AllReadyH.nil
          refine step_append_lies _ (by rfl) _ _ _ (by rfl) w.heap.size 95 i0 _ 1 8 Try.underlying92 hi hz0 hz1 hz2 rfl (by decide) (.slice A I cp) I (ptrs rw I) (by rfl) G1.out.row ⟨w5.heap.size, 0, none⟩ 1 1 [.pointer (some ⟨R5, 0, none⟩)] (by rfl) (by rfl) (World.news_of_block (cs := #[.pointer (some ⟨R5, 0, none⟩)]) (t := 95) (fr := (0, 0)) G8.out) (by simp [Value.oneCell']) (by decide) (by simp only [maxLen]; omega) (by omega) (by simp; omega) _ rfl ?_
          intro g cap w7 hown hgr hat hlt7
          obtain ⟨⟨⟨u7, c7, f7⟩, hx7⟩, hnext⟩ := G1.out.next G2.out G3.out G4.out hown hgr hat
          have y7 : w7.cell? ⟨w.heap.size, 1, none⟩ = some (.int .i64 inb) := cell_of_blk (cs := [.int .i64 sh, .int .i64 inb, .int .i64 sln, .int .i64 qu, .int .i64 ru, .int .i64 ou, .int .i64 st]) hx7 1
          have y8 : (w7.setCell ⟨L, 13, none⟩ (.slice (some ⟨g, 0, none⟩) (I + 1) cap)).cell? ⟨w.heap.size, 1, none⟩ = some (.int .i64 inb) := cell_of_blk (cs := [.int .i64 sh, .int .i64 inb, .int .i64 sln, .int .i64 qu, .int .i64 ru, .int .i64 ou, .int .i64 st]) hnext.box 1
          have HN := Lib.hid hnext
          clear hnext hown hgr hat hlt7 hx7
          refine hK.out _ _ y7 (fun hHeld => ?_)
          clear hK K
          try simp only [Act.put, List.setIfInBounds_toArray, List.set_cons_zero, List.set_cons_succ]
          refine' wpAnyH_take (i := 10) (oi := ⟨some 39, _, _, _, _, _⟩) (v := ?v7) rfl (by kernel_rfl) (by kernel_rfl) (by kernel_rfl) (fun _ _ _ h => h) (Or.inl ⟨by rfl, ?hy7⟩) hHeld ?rest7
          case hy7 => (intro W hSw; go_simp; first | done | with_reducible rfl)
          simp only [Act.put, List.setIfInBounds_toArray, List.set_cons_zero, List.set_cons_succ]
          refine' wpAnyH_take (i := 11) (oi := ⟨some 40, _, _, _, _, _⟩) (v := ?v8) rfl (by kernel_rfl) (by kernel_rfl) (by kernel_rfl) (fun _ _ _ h => h) (Or.inl ⟨by rfl, ?hy8⟩) hHeld ?rest8
          case hy8 => (intro W hSw; go_simp; first | done | with_reducible rfl)
          simp only [Act.put, List.setIfInBounds_toArray, List.set_cons_zero, List.set_cons_succ]
          refine wpAnyH_ready (rs := [12]) (by kernel_rfl) (by simp) ?_
          refine AllReadyH.cons (o := ⟨none, _, _, _, _, _⟩) rfl (fun K hK => ?_) AllReadyH.nil
          go_simp
          refine hK.out _ _ y8 (fun hHeld => ?_)
          clear hK K
          try simp only [Act.put, List.setIfInBounds_toArray, List.set_cons_zero, List.set_cons_succ]
          refine wpAnyH_done (by kernel_rfl) ?_ _
          go_wp2_with fail
          go_roundw
          case rel => exact ⟨I + 1, _, _, _, hlt, by simp, HN.out⟩
          case measure => simp [intOf]; omega
        · go_simp
          refine (HON.out _).mono ?_
          rintro e w5 ⟨R5, B5, rfl, hR5, hB5, hc5, hr5⟩
          obtain ⟨g1, g2, g3, g4, g5, g6, g7, y5, g8⟩ := STEP.out w5 R5 B5 hR5 hB5 hc5 hr5
          have y6 : (w5.alloc (.cells #[.pointer (some ⟨R5, 0, none⟩)] 95)).cell? ⟨w.heap.size, 1, none⟩ = some (.int .i64 inb) := cell_of_blk (cs := [.int .i64 sh, .int .i64 inb, .int .i64 sln, .int .i64 qu, .int .i64 ru, .int .i64 ou, .int .i64 st]) g1.box 1
          have G1 := Lib.hid g1
          have G2 := Lib.hid g2
          have G3 := Lib.hid g3
          have G4 := Lib.hid g4
          have G8 := Lib.hid g8
          clear hc5 hr5 g1 g2 g4 g8
          refine hK.out _ _ y5 (fun hHeld => ?_)
          clear hK K
          try simp only [Act.put, List.setIfInBounds_toArray, List.set_cons_zero, List.set_cons_succ]
          refine wpAnyH_ready (rs := [4, 8]) (by kernel_rfl) (by simp) ?_
          refine AllReadyH.cons (o := ⟨some 33, _, _, _, _, _⟩) rfl (fun K hK => ?_) (AllReadyH.cons (o := ⟨some 37, _, _, _, _, _⟩) rfl (fun K hK => ?_) AllReadyH.nil)
          · go_simp
            refine hK.out _ _ hHeld (fun hHeld => ?_)
            clear hK K
            try simp only [Act.put, List.setIfInBounds_toArray, List.set_cons_zero, List.set_cons_succ]
            refine wpAnyH_ready (rs := [8]) (by kernel_rfl) (by simp) ?_
            refine AllReadyH.cons (o := ⟨some 37, _, _, _, _, _⟩) rfl (fun K hK => ?_) AllReadyH.nil
            go_simp
            refine hK.out _ _ y6 (fun hHeld => ?_)
            clear hK K
            try simp only [Act.put, List.setIfInBounds_toArray, List.set_cons_zero, List.set_cons_succ]
            refine wpAnyH_ready (rs := [9]) (by kernel_rfl) (by simp) ?_
            refine AllReadyH.cons (o := ⟨some 38, _, _, _, _, _⟩) rfl (fun K hK => ?_) AllReadyH.nil
            refine step_append_lies _ (by rfl) _ _ _ (by rfl) w.heap.size 95 i0 _ 1 8 Try.underlying92 hi hz0 hz1 hz2 rfl (by decide) (.slice A I cp) I (ptrs rw I) (by rfl) G1.out.row ⟨w5.heap.size, 0, none⟩ 1 1 [.pointer (some ⟨R5, 0, none⟩)] (by rfl) (by rfl) (World.news_of_block (cs := #[.pointer (some ⟨R5, 0, none⟩)]) (t := 95) (fr := (0, 0)) G8.out) (by simp [Value.oneCell']) (by decide) (by simp only [maxLen]; omega) (by omega) (by simp; omega) _ rfl ?_
            intro g cap w7 hown hgr hat hlt7
            obtain ⟨⟨⟨u7, c7, f7⟩, hx7⟩, hnext⟩ := G1.out.next G2.out G3.out G4.out hown hgr hat
            have y7 : w7.cell? ⟨w.heap.size, 1, none⟩ = some (.int .i64 inb) := cell_of_blk (cs := [.int .i64 sh, .int .i64 inb, .int .i64 sln, .int .i64 qu, .int .i64 ru, .int .i64 ou, .int .i64 st]) hx7 1
            have y8 : (w7.setCell ⟨L, 13, none⟩ (.slice (some ⟨g, 0, none⟩) (I + 1) cap)).cell? ⟨w.heap.size, 1, none⟩ = some (.int .i64 inb) := cell_of_blk (cs := [.int .i64 sh, .int .i64 inb, .int .i64 sln, .int .i64 qu, .int .i64 ru, .int .i64 ou, .int .i64 st]) hnext.box 1
            have HN := Lib.hid hnext
            clear hnext hown hgr hat hlt7 hx7
            refine hK.out _ _ y7 (fun hHeld => ?_)
            clear hK K
            try simp only [Act.put, List.setIfInBounds_toArray, List.set_cons_zero, List.set_cons_succ]
            refine' wpAnyH_take (i := 10) (oi := ⟨some 39, _, _, _, _, _⟩) (v := ?v9) rfl (by kernel_rfl) (by kernel_rfl) (by kernel_rfl) (fun _ _ _ h => h) (Or.inl ⟨by rfl, ?hy9⟩) hHeld ?rest9
            case hy9 => (intro W hSw; go_simp; first | done | with_reducible rfl)
            simp only [Act.put, List.setIfInBounds_toArray, List.set_cons_zero, List.set_cons_succ]
            refine' wpAnyH_take (i := 11) (oi := ⟨some 40, _, _, _, _, _⟩) (v := ?v10) rfl (by kernel_rfl) (by kernel_rfl) (by kernel_rfl) (fun _ _ _ h => h) (Or.inl ⟨by rfl, ?hy10⟩) hHeld ?rest10
            case hy10 => (intro W hSw; go_simp; first | done | with_reducible rfl)
            simp only [Act.put, List.setIfInBounds_toArray, List.set_cons_zero, List.set_cons_succ]
            refine wpAnyH_ready (rs := [12]) (by kernel_rfl) (by simp) ?_
            refine AllReadyH.cons (o := ⟨none, _, _, _, _, _⟩) rfl (fun K hK => ?_) AllReadyH.nil
            go_simp
            refine hK.out _ _ y8 (fun hHeld => ?_)
            clear hK K
            try simp only [Act.put, List.setIfInBounds_toArray, List.set_cons_zero, List.set_cons_succ]
            refine wpAnyH_done (by kernel_rfl) ?_ _
            go_wp2_with fail
            go_roundw
            case rel => exact ⟨I + 1, _, _, _, hlt, by simp, HN.out⟩
            case measure => simp [intOf]; omega
          · go_simp
            refine hK.out _ _ y6 (fun hHeld => ?_)
            clear hK K
            try simp only [Act.put, List.setIfInBounds_toArray, List.set_cons_zero, List.set_cons_succ]
            refine wpAnyH_ready (rs := [4]) (by kernel_rfl) (by simp) ?_
            refine AllReadyH.cons (o := ⟨some 33, _, _, _, _, _⟩) rfl (fun K hK => ?_) AllReadyH.nil
            go_simp
            refine hK.out _ _ hHeld (fun hHeld => ?_)
            clear hK K
            try simp only [Act.put, List.setIfInBounds_toArray, List.set_cons_zero, List.set_cons_succ]
            refine wpAnyH_ready (rs := [9]) (by kernel_rfl) (by simp) ?_
            refine AllReadyH.cons (o := ⟨some 38, _, _, _, _, _⟩) rfl (fun K hK => ?_) AllReadyH.nil
            refine step_append_lies _ (by rfl) _ _ _ (by rfl) w.heap.size 95 i0 _ 1 8 Try.underlying92 hi hz0 hz1 hz2 rfl (by decide) (.slice A I cp) I (ptrs rw I) (by rfl) G1.out.row ⟨w5.heap.size, 0, none⟩ 1 1 [.pointer (some ⟨R5, 0, none⟩)] (by rfl) (by rfl) (World.news_of_block (cs := #[.pointer (some ⟨R5, 0, none⟩)]) (t := 95) (fr := (0, 0)) G8.out) (by simp [Value.oneCell']) (by decide) (by simp only [maxLen]; omega) (by omega) (by simp; omega) _ rfl ?_
            intro g cap w7 hown hgr hat hlt7
            obtain ⟨⟨⟨u7, c7, f7⟩, hx7⟩, hnext⟩ := G1.out.next G2.out G3.out G4.out hown hgr hat
            have y7 : w7.cell? ⟨w.heap.size, 1, none⟩ = some (.int .i64 inb) := cell_of_blk (cs := [.int .i64 sh, .int .i64 inb, .int .i64 sln, .int .i64 qu, .int .i64 ru, .int .i64 ou, .int .i64 st]) hx7 1
            have y8 : (w7.setCell ⟨L, 13, none⟩ (.slice (some ⟨g, 0, none⟩) (I + 1) cap)).cell? ⟨w.heap.size, 1, none⟩ = some (.int .i64 inb) := cell_of_blk (cs := [.int .i64 sh, .int .i64 inb, .int .i64 sln, .int .i64 qu, .int .i64 ru, .int .i64 ou, .int .i64 st]) hnext.box 1
            have HN := Lib.hid hnext
            clear hnext hown hgr hat hlt7 hx7
            refine hK.out _ _ y7 (fun hHeld => ?_)
            clear hK K
            try simp only [Act.put, List.setIfInBounds_toArray, List.set_cons_zero, List.set_cons_succ]
            refine' wpAnyH_take (i := 10) (oi := ⟨some 39, _, _, _, _, _⟩) (v := ?v11) rfl (by kernel_rfl) (by kernel_rfl) (by kernel_rfl) (fun _ _ _ h => h) (Or.inl ⟨by rfl, ?hy11⟩) hHeld ?rest11
            case hy11 => (intro W hSw; go_simp; first | done | with_reducible rfl)
            simp only [Act.put, List.setIfInBounds_toArray, List.set_cons_zero, List.set_cons_succ]
            refine' wpAnyH_take (i := 11) (oi := ⟨some 40, _, _, _, _, _⟩) (v := ?v12) rfl (by kernel_rfl) (by kernel_rfl) (by kernel_rfl) (fun _ _ _ h => h) (Or.inl ⟨by rfl, ?hy12⟩) hHeld ?rest12
            case hy12 => (intro W hSw; go_simp; first | done | with_reducible rfl)
            simp only [Act.put, List.setIfInBounds_toArray, List.set_cons_zero, List.set_cons_succ]
            refine wpAnyH_ready (rs := [12]) (by kernel_rfl) (by simp) ?_
            refine AllReadyH.cons (o := ⟨none, _, _, _, _, _⟩) rfl (fun K hK => ?_) AllReadyH.nil
            go_simp
            refine hK.out _ _ y8 (fun hHeld => ?_)
            clear hK K
            try simp only [Act.put, List.setIfInBounds_toArray, List.set_cons_zero, List.set_cons_succ]
            refine wpAnyH_done (by kernel_rfl) ?_ _
            go_wp2_with fail
            go_roundw
            case rel => exact ⟨I + 1, _, _, _, hlt, by simp, HN.out⟩
            case measure => simp [intOf]; omega
      · obtain rfl : I = sh := by omega
        have iI : ¬ (I : Int) < I := by omega
        have hcc : (1 ≤ I ∧ I ≤ 15) ∧ (1 ≤ inb ∧ inb ≤ 4096) ∧ (1 ≤ st ∧ st ≤ 1099511627776) := by
          have := HS.out
          omega
        have hfin := hm.done hcc
        have hbel := hm.bel
        clear hm
        go_wp2_with fail
        go_ret
        obtain ⟨b, hb⟩ := hfin
        exact ⟨L, rfl, ⟨b, hb⟩, hbel⟩
end Go.Proofs.Ytibbnikfecilhaa
