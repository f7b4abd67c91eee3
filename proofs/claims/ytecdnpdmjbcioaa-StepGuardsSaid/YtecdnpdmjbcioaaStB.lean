/- Chapter 8: a step of a run that took the first event alone. -/
import Derived.Test.YtecdnpdmjbcioaaStA
import Derived.Deep.DeepCutAuto
import Derived.Deep.CutBlock
namespace Go.Proofs.Ytecdnpdmjbcioaa
open Go.RowKit
set_option linter.unusedVariables false
set_option linter.unusedSimpArgs false

theorem Ph.start_kb (w : World) (kb : Bool) : Ph w w (.slice none 0 0) [] false kb false false := ⟨⟨rfl, .inl ⟨rfl, rfl⟩⟩, Below.refl _ _, rfl, fun h => (by cases h), fun h => (by cases h)⟩
theorem Ph.len {w wx : World} {v : Value} {l : List (Int × Value × Bool)} {kB kb sB tB : Bool} (h : Ph w wx v l kB kb sB tB) : l.length ≤ 3 := by
  have := congrArg List.length h.ats
  rw [List.length_map] at this
  rw [this]
  cases kB <;> cases sB <;> cases tB <;> simp
set_option maxHeartbeats 8000000 in
set_option maxRecDepth 20000 in
theorem step2 {w : World} {TA : Nat} {p : Bool} {NA : Option Addr} {NN NC : Nat} {RA : Option Addr} {RN RC : Nat} (h : Tab2 w TA p NA NN NC RA RN RC) (win : Int) (hw1 : 1 ≤ win) (hw2 : win ≤ 8) (bk : Bool) {HA : Option Addr} {N1 hc S I io ic sc : Nat} {es : List Ev} (hh : EvsAt w HA (N1 + 1) es) (hN1 : 1 ≤ N1) (hN : N1 ≤ 1000) (e0 el : Ev) (h0 : es.getD 0 Ev.zero = e0) (hl : es.getD N1 Ev.zero = el) (hr : RunAt w S I io ic) (hsc : 1 ≤ sc) (hic : 1 ≤ ic) (blk : Bool) (hp : blk = true → p = true) (m : Bool) (hm : NN = 1 → Meets w RA RN RC e0 el m)
    (bar kB kb sB tB : Bool) (hbar : (decide (NN = 1) && (decide (el.typ = 2) && m)) = bar) (hkB : (p || !bar) = kB) (hkb : (blk || bar) = kb) (hsB : (p && decide (el.typ = 0)) = sB) (htB : (!blk && decide (el.typ = 1)) = tB) :
    Calls Try.prog 14 #[.agg #[.slice (some ⟨TA, 0, none⟩) 2 2, .int .i64 win, .bool bk], .slice HA (N1 + 1) hc, .agg #[.int .i64 0, .slice (some ⟨S, 0, none⟩) 1 sc, .bool blk]] w fun e w' => Below w.heap.size w w' ∧ ((win ≤ N1 ∧ e = .returned (.slice none 0 0)) ∨ ((N1 : Int) < win ∧ ∃ v l, e = .returned v ∧ Ph w w' v l kB kb sB tB)) := by
  have hb1 : Below w.heap.size w ((w.alloc (.cells #[.slice (some ⟨TA, 0, none⟩) 2 2, .int .i64 win, .bool bk] 26)).alloc (.cells #[.int .i64 0, .slice (some ⟨S, 0, none⟩) 1 sc, .bool blk] 42)) := bl_alloc (bl_alloc (Below.refl _ _) _) _
  have hz : ((w.alloc (.cells #[.slice (some ⟨TA, 0, none⟩) 2 2, .int .i64 win, .bool bk] 26)).alloc (.cells #[.int .i64 0, .slice (some ⟨S, 0, none⟩) 1 sc, .bool blk] 42)).heap[w.heap.size]? = some (.cells #[.slice (some ⟨TA, 0, none⟩) 2 2, .int .i64 win, .bool bk] 26 (0, 0)) := alloc_old (alloc_new w _) _
  have hq : ((w.alloc (.cells #[.slice (some ⟨TA, 0, none⟩) 2 2, .int .i64 win, .bool bk] 26)).alloc (.cells #[.int .i64 0, .slice (some ⟨S, 0, none⟩) 1 sc, .bool blk] 42)).heap[w.heap.size + 1]? = some (.cells #[.int .i64 0, .slice (some ⟨S, 0, none⟩) 1 sc, .bool blk] 42 (0, 0)) := alloc_at (by simp) _
  have hwN : IntKind.i64.wrap (N1 : Int) = N1 := IntWalk.i64_in _ (by omega)
  have hN2 : ¬ ((N1 : Int) < 0) := by omega
  obtain ⟨ie, hie, hie0, hie1, hie2⟩ := info_parts infoRun
  have HB1 := Lib.hid hb1
  have HZ := Lib.hid hz
  have HQ := Lib.hid hq
  have HT := Lib.hid (h.below hb1)
  have HH := Lib.hid (hh.below hb1)
  have HR := Lib.hid (hr.below hb1)
  have HM : Hid (NN = 1 → Meets ((w.alloc (.cells #[.slice (some ⟨TA, 0, none⟩) 2 2, .int .i64 win, .bool bk] 26)).alloc (.cells #[.int .i64 0, .slice (some ⟨S, 0, none⟩) 1 sc, .bool blk] 42)) RA RN RC e0 el m) := Lib.hid fun hn W X hW hs => hm hn W X (bl_then hb1 hW) hs
  have HP := Lib.hid hp
  have HE0 := Lib.hid h0
  have HEL := Lib.hid hl
  have HBAR := Lib.hid hbar
  have HKB := Lib.hid hkB
  have HKb := Lib.hid hkb
  have HSB := Lib.hid hsB
  have HTB := Lib.hid htB
  clear h hh hr hm hp h0 hl hbar hkB hkb hsB htB hb1 hz hq
  go_enter Try.func14, Try.ntmps14
  go_wp2_with fail
  obtain ⟨T, hTT⟩ : ∃ T, T = w.heap.size := ⟨_, rfl⟩
  obtain ⟨Q, hQQ⟩ : ∃ Q, Q = w.heap.size + 1 := ⟨_, rfl⟩
  rw [← hQQ] at HQ
  rw [← hTT] at HZ
  try rw [← hQQ]
  try rw [← hTT]
  clear hTT hQQ
  generalize (w.alloc (.cells #[.slice (some ⟨TA, 0, none⟩) 2 2, .int .i64 win, .bool bk] 26)).alloc (.cells #[.int .i64 0, .slice (some ⟨S, 0, none⟩) 1 sc, .bool blk] 42) = w1 at *
  have HST : Hid (∀ W, Below w1.heap.size w1 W → (W.cell? ⟨T, 0, none⟩ = some (.slice (some ⟨TA, 0, none⟩) 2 2) ∧ W.cell? ⟨T, 1, none⟩ = some (.int .i64 win) ∧ W.cell? ⟨T, 2, none⟩ = some (.bool bk)) ∧ (W.cell? ⟨Q, 0, none⟩ = some (.int .i64 0) ∧ W.cell? ⟨Q, 1, none⟩ = some (.slice (some ⟨S, 0, none⟩) 1 sc) ∧ W.cell? ⟨Q, 2, none⟩ = some (.bool blk)) ∧ W.cell? ⟨S, 0, none⟩ = some (.slice (some ⟨I, io, none⟩) 1 ic) ∧ W.cell? ⟨I, io, none⟩ = some (.int .i64 0)) := Lib.hid fun W hW =>
    ⟨three_of ((hW.block _ (block_lt HZ.out)).trans HZ.out), three_of ((hW.block _ (block_lt HQ.out)).trans HQ.out), (HR.out.below hW).c, (HR.out.below hW).k⟩
  have HF : Hid (∀ W, Below w1.heap.size w1 W → Calls Try.prog 15 #[.agg #[.slice (some ⟨TA, 0, none⟩) 2 2, .int .i64 win, .bool bk], .agg #[.int .i64 0, .slice (some ⟨S, 0, none⟩) 1 sc, .bool blk], .int .i64 N1] W fun e w' => e = .returned (.bool true) ∧ Below W.heap.size W w') := Lib.hid fun W hW => fits2 (HT.out.below hW) win hw1 hw2 bk (HR.out.below hW) hsc hic blk HP.out N1 (by omega)
  have hbr : win ≤ (N1 : Int) ∨ (N1 : Int) < win := by omega
  rcases hbr with hwin | hwin
  · go_region_held3 (fun W => (W.cell? ⟨T, 0, none⟩ = some (.slice (some ⟨TA, 0, none⟩) 2 2) ∧ W.cell? ⟨T, 1, none⟩ = some (.int .i64 win) ∧ W.cell? ⟨T, 2, none⟩ = some (.bool bk)) ∧ (W.cell? ⟨Q, 0, none⟩ = some (.int .i64 0) ∧ W.cell? ⟨Q, 1, none⟩ = some (.slice (some ⟨S, 0, none⟩) 1 sc) ∧ W.cell? ⟨Q, 2, none⟩ = some (.bool blk)) ∧ W.cell? ⟨S, 0, none⟩ = some (.slice (some ⟨I, io, none⟩) 1 ic) ∧ W.cell? ⟨I, io, none⟩ = some (.int .i64 0))
      (first | exact HST.out _ hb4' | exact HST.out _ (bl_drew (Below.refl _ _)))
      (first | (go_at_call 15; refine (HF.out _ (bl_drew (Below.refl _ _))).mono ?_; rintro e w4 ⟨rfl, hb4⟩; have hb4' := bl_then (bl_drew (Below.refl _ w1)) hb4))
    all_goals
      go_wp2_with fail
      go_ret
      exact ⟨bl_then HB1.out hb4', .inl ⟨hwin, rfl⟩⟩
  · go_region_held3 (fun W => (W.cell? ⟨T, 0, none⟩ = some (.slice (some ⟨TA, 0, none⟩) 2 2) ∧ W.cell? ⟨T, 1, none⟩ = some (.int .i64 win) ∧ W.cell? ⟨T, 2, none⟩ = some (.bool bk)) ∧ (W.cell? ⟨Q, 0, none⟩ = some (.int .i64 0) ∧ W.cell? ⟨Q, 1, none⟩ = some (.slice (some ⟨S, 0, none⟩) 1 sc) ∧ W.cell? ⟨Q, 2, none⟩ = some (.bool blk)) ∧ W.cell? ⟨S, 0, none⟩ = some (.slice (some ⟨I, io, none⟩) 1 ic) ∧ W.cell? ⟨I, io, none⟩ = some (.int .i64 0))
      (first | exact HST.out _ hb4' | exact HST.out _ (bl_drew (Below.refl _ _)))
      (first | (go_at_call 15; refine (HF.out _ (bl_drew (Below.refl _ _))).mono ?_; rintro e w4 ⟨rfl, hb4⟩; have hb4' := bl_then (bl_drew (Below.refl _ w1)) hb4))
    all_goals
      have HB4 := Lib.hid hb4'
      obtain ⟨⟨t0, t1, t2⟩, ⟨q0, q1, q2⟩, -, -⟩ := HST.out _ hb4'
      have c1 : w4.cell? ⟨TA, 1, none⟩ = some (.bool p) := (HT.out.below hb4').cell 1
      clear hb4 hb4'
      go_wp2_with fail
      go_quiet (fail)
      have hb5 := bl_drewN HB4.out nq
      generalize w4.drewN nq = w5 at *
      clear t0 t1 t2 q0 q1 q2 c1
      go_upto_region 6 with fail
      go_cut [11] (fun v wx => Hid (v = .slice none 0 0) ∧ wx = w5)
      case first =>
        go_wp2_with fail
        go_meet
        case rel => exact ⟨Lib.hid rfl, rfl⟩
      case rest =>
        obtain ⟨HV, rfl⟩ := hcut
        rename World => w5
        obtain ⟨⟨t0, t1, t2⟩, ⟨q0, q1, q2⟩, -, -⟩ := HST.out _ hb5
        go_wp2_with fail
        refine (barred2 (HT.out.below hb5) win bk (HH.out.below hb5) (by omega) e0 el HE0.out HEL.out (HR.out.below hb5) blk m (fun hn W X hW hs => HM.out hn W X (bl_then hb5 hW) hs) bar HBAR.out).mono ?_
        rintro e w6 ⟨rfl, hb6⟩
        have HB6 := Lib.hid (bl_then hb5 hb6)
        clear hb5 hb6 HB4 t0 t1 t2 q0 q1 q2
        go_upto_region 8 with fail
        go_cut [68] (fun v wx => v = .bool kB ∧ wx = w6)
        case first =>
          cases p <;> cases bar <;> (go_wp2_with fail; go_meet; exact ⟨congrArg Value.bool HKB.out, rfl⟩)
        case rest =>
          obtain ⟨rfl, rfl⟩ := hcut
          go_upto_if 68 with fail
          go_cut [11] (fun v wx => ∃ l, Ph w1 wx v l kB kb false false)
          case first =>
            cases kB
            · go_wp2_with fail
              go_meet
              case rel => exact ⟨[], by rw [HV.out]; exact (Ph.start_kb w1 kb).below HB6.out⟩
            · obtain ⟨-, ⟨q0, q1, q2⟩, -, -⟩ := HST.out _ HB6.out
              go_wp2_with fail
              refine (own_any ((HB6.out.block _ (block_lt HQ.out)).trans HQ.out) (HR.out.below HB6.out) 0).mono ?_
              rintro e wb ⟨X, g, c, rfl, hcop⟩
              clear q0 q1 q2
              obtain ⟨-, ⟨q0, q1, q2⟩, -, -⟩ := HST.out _ (bl_alloc (bl_then HB6.out hcop.bel) (.cells #[.int .i64 0, .slice (some ⟨X, 0, none⟩) 1 1, .bool false] 42))
              cases kb
              · cases blk <;> cases bar <;> first
                | (exfalso; cases HKb.out; done)
                | (
                  have harm := arm_keep (wc := wb.alloc (.cells #[.int .i64 0, .slice (some ⟨X, 0, none⟩) 1 1, .bool false] 42)) HB6.out hcop (bl_alloc (Below.refl _ _) _) false _ HV.out (wb.heap.size + 1) (by simp)
                  obtain ⟨hown, hrd, hsz, hstep⟩ := harm
                  have HOWN := Lib.hid hown
                  have HRD := Lib.hid hrd
                  have HSZ := Lib.hid hsz
                  have STEP := Lib.hid hstep
                  clear hown hrd hsz hstep
                  go_wp2_with (at_builtin; go_loud (refine wpList_append_reads _ rfl (.tmp 79) (.tmp 81) 38 rfl w1.heap.size 42 ie _ 3 40 Try.underlying38 hie hie0 hie1 hie2 rfl (by decide) _ 0 [] rfl HOWN.out _ 1 _ rfl HRD.out (by simp only [maxLen]; omega) (by omega) HSZ.out ?_); intro v8 w8 hown8 hgr8; have hph := STEP.out v8 w8 hown8 hgr8; clear hown8 hgr8)
                  go_meet
                  case rel => first | assumption | (trace_state; exact hph))
              · cases blk <;> cases bar <;> first
                | (exfalso; cases HKb.out; done)
                | (
                  have harm := arm_keep (wc := wb.alloc (.cells #[.int .i64 0, .slice (some ⟨X, 0, none⟩) 1 1, .bool true] 42)) HB6.out hcop (bl_alloc (Below.refl _ _) _) true _ HV.out (wb.heap.size + 1) (by simp)
                  obtain ⟨hown, hrd, hsz, hstep⟩ := harm
                  have HOWN := Lib.hid hown
                  have HRD := Lib.hid hrd
                  have HSZ := Lib.hid hsz
                  have STEP := Lib.hid hstep
                  clear hown hrd hsz hstep
                  go_wp2_with (at_builtin; go_loud (refine wpList_append_reads _ rfl (.tmp 79) (.tmp 81) 38 rfl w1.heap.size 42 ie _ 3 40 Try.underlying38 hie hie0 hie1 hie2 rfl (by decide) _ 0 [] rfl HOWN.out _ 1 _ rfl HRD.out (by simp only [maxLen]; omega) (by omega) HSZ.out ?_); intro v8 w8 hown8 hgr8; have hph := STEP.out v8 w8 hown8 hgr8; clear hown8 hgr8)
                  go_meet
                  case rel => first | assumption | (trace_state; exact hph))
          case rest =>
            obtain ⟨l, hph⟩ := hcut
            rename World => wa
            have HPH := Lib.hid hph
            have HLE : Hid (l.length ≤ 3) := Lib.hid hph.len
            obtain ⟨⟨t0, t1, t2⟩, ⟨q0, q1, q2⟩, -, -⟩ := HST.out _ hph.bel
            have HTK : Hid (∀ W, Below w1.heap.size w1 W → Calls Try.prog 33 #[.agg #[.slice (some ⟨TA, 0, none⟩) 2 2, .int .i64 win, .bool bk], .slice HA (N1 + 1) hc, .agg #[.int .i64 0, .slice (some ⟨S, 0, none⟩) 1 sc, .bool blk], .int .i64 0] W fun e w' => e = .returned (.bool (decide (el.typ = 0))) ∧ Below W.heap.size W w') := Lib.hid fun W hW => takes0 (HT.out.below hW) win bk (HH.out.below hW) (by omega) e0 el HE0.out HEL.out (HR.out.below hW) blk _ rfl
            clear hph
            go_upto_region 12 with fail
            go_cut [91] (fun v wx => v = .bool sB ∧ Below wa.heap.size wa wx)
            case first =>
              cases p
              · go_wp2_with fail
                go_meet
                exact ⟨congrArg Value.bool HSB.out, Below.refl _ _⟩
              · go_wp2_with fail
                refine (HTK.out _ HPH.out.bel).mono ?_
                rintro e w4 ⟨rfl, hb4⟩
                go_wp2_with fail
                go_meet
                exact ⟨congrArg Value.bool HSB.out, hb4⟩
            case rest =>
              obtain ⟨rfl, hb⟩ := hcut
              rename World => wx
              have HPX := Lib.hid (HPH.out.below hb)
              clear t0 t1 t2 q0 q1 q2 HTK HPH hb
              go_upto_if 91 with fail
              go_cut [11] (fun v wx => ∃ l, Ph w1 wx v l kB kb sB false)
              case first =>
                cases sB
                · go_wp2_with fail
                  go_meet
                  case rel => exact ⟨l, HPX.out⟩
                · obtain ⟨-, ⟨q0, q1, q2⟩, -, -⟩ := HST.out _ HPX.out.bel
                  go_wp2_with fail
                  refine (own_any ((HPX.out.bel.block _ (block_lt HQ.out)).trans HQ.out) (HR.out.below HPX.out.bel) 0).mono ?_
                  rintro e wb ⟨X, g, c, rfl, hcop⟩
                  have hbc : Below wb.heap.size wb (wb.alloc (.cells #[.int .i64 0, .slice (some ⟨X, 0, none⟩) 1 1, .bool false] 42)) := bl_alloc (Below.refl _ _) _
                  have hbx := bl_then (bl_then HPX.out.bel hcop.bel) hbc
                  have hz := alloc_new wb (.cells #[.int .i64 0, .slice (some ⟨X, 0, none⟩) 1 1, .bool false] 42)
                  have hxlt := hcop.blt
                  have HCOP := Lib.hid hcop
                  have HCB := Lib.hid (hcop.below hbc)
                  have HBX := Lib.hid hbx
                  have HZZ := Lib.hid hz
                  clear q0 q1 q2 hcop
                  obtain ⟨-, ⟨q0, q1, q2⟩, -, -⟩ := HST.out _ hbx
                  obtain ⟨z0, z1, z2⟩ := three_of hz
                  clear hz hbx
                  go_wp2_with fail
                  refine (with0 HCB.out N1).mono ?_
                  rintro e wd ⟨rfl, ⟨A9, c9, hx9⟩, ho9⟩
                  have hz2 := ho9.block HZZ.out (by omega)
                  have f1 := free_of_blk (cs := [Value.int .i64 0, .slice (some ⟨X, 0, none⟩) 1 1, .bool false]) hz2 1
                  clear z0 z1 z2 q0 q1 q2
                  obtain ⟨z0, z1, z2⟩ := three_of hz2
                  have ho5 : Only (fun k => k = X) wb (wd.setCell ⟨wb.heap.size, 1, none⟩ (.slice (some ⟨X, 0, none⟩) 1 1)) := (((Only.refl (fun k => k = X) wb).alloc _).trans ho9).setCell _ _ (.inr (Nat.le_refl _))
                  have hx5 := ((Only.refl (fun k => k = wb.heap.size) wd).setCell ⟨wb.heap.size, 1, none⟩ (.slice (some ⟨X, 0, none⟩) 1 1) (.inl rfl)).block hx9 (by omega)
                  obtain ⟨hown, hrd, hsz, hstep⟩ := arm_add HPX.out HCOP.out ho5 ⟨A9, c9, hx5⟩ wd.heap.size (by simp)
                  have HOWN := Lib.hid hown
                  have HRD := Lib.hid hrd
                  have HSZ := Lib.hid hsz
                  have STEP := Lib.hid hstep
                  clear hown hrd hsz hstep hx9 ho9 hz2 ho5 hx5 hbc hxlt
                  go_wp2_with (at_builtin; go_loud (refine wpList_append_reads _ rfl (.tmp 103) (.tmp 105) 38 rfl w1.heap.size 42 ie _ 3 40 Try.underlying38 hie hie0 hie1 hie2 rfl (by decide) _ l.length (runCells l) rfl HOWN.out _ 1 _ rfl HRD.out (by have := HLE.out; simp only [maxLen]; omega) (by have := HLE.out; omega) HSZ.out ?_); intro v8 w8 hown8 hgr8; have hph := STEP.out v8 w8 hown8 hgr8; clear hown8 hgr8)
                  go_meet
                  case rel => first | assumption | (trace_state; exact hph)
              case rest =>
                obtain ⟨l, hph⟩ := hcut
                rename World => wa
                have HPH := Lib.hid hph
                have HLE : Hid (l.length ≤ 3) := Lib.hid hph.len
                obtain ⟨⟨t0, t1, t2⟩, ⟨q0, q1, q2⟩, -, -⟩ := HST.out _ hph.bel
                have HTK : Hid (∀ W, Below w1.heap.size w1 W → Calls Try.prog 33 #[.agg #[.slice (some ⟨TA, 0, none⟩) 2 2, .int .i64 win, .bool bk], .slice HA (N1 + 1) hc, .agg #[.int .i64 0, .slice (some ⟨S, 0, none⟩) 1 sc, .bool blk], .int .i64 1] W fun e w' => e = .returned (.bool (decide (el.typ = 1))) ∧ Below W.heap.size W w') := Lib.hid fun W hW => takes1 (HT.out.below hW) win bk (HH.out.below hW) (by omega) e0 el HE0.out HEL.out (HR.out.below hW) blk _ rfl
                clear hph
                go_upto_region 16 with fail
                go_cut [122] (fun v wx => v = .bool tB ∧ Below wa.heap.size wa wx)
                case first =>
                  cases blk
                  · go_wp2_with fail
                    refine (HTK.out _ HPH.out.bel).mono ?_
                    rintro e w4 ⟨rfl, hb4⟩
                    go_wp2_with fail
                    go_meet
                    exact ⟨congrArg Value.bool HTB.out, hb4⟩
                  · go_wp2_with fail
                    go_meet
                    exact ⟨congrArg Value.bool HTB.out, Below.refl _ _⟩
                case rest =>
                  obtain ⟨rfl, hb⟩ := hcut
                  rename World => wx
                  have HPX := Lib.hid (HPH.out.below hb)
                  clear t0 t1 t2 q0 q1 q2 HTK HPH hb
                  go_upto_if 122 with fail
                  go_cut [11] (fun v wx => ∃ l, Ph w1 wx v l kB kb sB tB)
                  case first =>
                    cases tB
                    · go_wp2_with fail
                      go_meet
                      case rel => exact ⟨l, HPX.out⟩
                    · obtain ⟨-, ⟨q0, q1, q2⟩, -, -⟩ := HST.out _ HPX.out.bel
                      go_wp2_with fail
                      refine (own_any ((HPX.out.bel.block _ (block_lt HQ.out)).trans HQ.out) (HR.out.below HPX.out.bel) 1).mono ?_
                      rintro e wb ⟨X, g, c, rfl, hcop⟩
                      have hbc : Below wb.heap.size wb (wb.alloc (.cells #[.int .i64 1, .slice (some ⟨X, 0, none⟩) 1 1, .bool false] 42)) := bl_alloc (Below.refl _ _) _
                      have hbx := bl_then (bl_then HPX.out.bel hcop.bel) hbc
                      have hz := alloc_new wb (.cells #[.int .i64 1, .slice (some ⟨X, 0, none⟩) 1 1, .bool false] 42)
                      have hxlt := hcop.blt
                      have HCOP := Lib.hid hcop
                      have HCB := Lib.hid (hcop.below hbc)
                      have HBX := Lib.hid hbx
                      have HZZ := Lib.hid hz
                      clear q0 q1 q2 hcop
                      obtain ⟨-, ⟨q0, q1, q2⟩, -, -⟩ := HST.out _ hbx
                      obtain ⟨z0, z1, z2⟩ := three_of hz
                      clear hz hbx
                      go_wp2_with fail
                      refine (with1 HCB.out N1).mono ?_
                      rintro e wd ⟨A9, m9, c9, rfl, hb9⟩
                      have hz2 := (hb9.block _ (block_lt HZZ.out)).trans HZZ.out
                      have f1 := free_of_blk (cs := [Value.int .i64 1, .slice (some ⟨X, 0, none⟩) 1 1, .bool false]) hz2 1
                      clear z0 z1 z2 q0 q1 q2
                      obtain ⟨z0, z1, z2⟩ := three_of hz2
                      have hb5 := bl_set (bl_then hbc hb9) ⟨wb.heap.size, 1, none⟩ (.slice A9 m9 c9) (Nat.le_refl _)
                      obtain ⟨hown, hrd, hsz, hstep⟩ := arm_goes HPX.out HCOP.out hb5 A9 m9 c9 wd.heap.size (by simp)
                      have HOWN := Lib.hid hown
                      have HRD := Lib.hid hrd
                      have HSZ := Lib.hid hsz
                      have STEP := Lib.hid hstep
                      clear hown hrd hsz hstep hb9 hz2 hb5 hbc hxlt
                      go_wp2_with (at_builtin; go_loud (refine wpList_append_reads _ rfl (.tmp 136) (.tmp 138) 38 rfl w1.heap.size 42 ie _ 3 40 Try.underlying38 hie hie0 hie1 hie2 rfl (by decide) _ l.length (runCells l) rfl HOWN.out _ 1 _ rfl HRD.out (by have := HLE.out; simp only [maxLen]; omega) (by have := HLE.out; omega) HSZ.out ?_); intro v8 w8 hown8 hgr8; have hph := STEP.out v8 w8 hown8 hgr8; clear hown8 hgr8)
                      go_meet
                      case rel => first | assumption | (trace_state; exact hph)
                  case rest =>
                    obtain ⟨l, hph⟩ := hcut
                    have HPH := Lib.hid hph
                    clear hph
                    go_wp2_with fail
                    go_ret
                    exact ⟨bl_then HB1.out HPH.out.bel, .inr ⟨hwin, _, l, rfl, HPH.out.base HB1.out⟩⟩
end Go.Proofs.Ytecdnpdmjbcioaa
