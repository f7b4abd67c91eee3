/- Chapter 19: the document's Take. (Printed by mktake.py.) -/
import Derived.Test.YtibbnikfecilhaaLgD9
namespace Go.Proofs.Ytibbnikfecilhaa
open Go.RowKit
set_option linter.unusedVariables false
set_option linter.unusedSimpArgs false

theorem outs_zero (n : Nat) : outsCells (List.replicate n (OutV.zero, -1)) = rowF (outOf zOut) n := by
  unfold outsCells rowF
  have h1 : ∀ l : List Nat, l.flatMap (outOf zOut) = (List.replicate l.length (OutV.zero, (-1 : Int))).flatMap fun x => x.1.cells := by
    intro l
    induction l with
    | nil => rfl
    | cons a l ih => rw [List.flatMap_cons, ih, List.length_cons, List.replicate_succ, List.flatMap_cons]; rfl
  rw [h1, List.length_range]
theorem infoCell : (Try.prog.info? 131).map (fun i => (i.zero, i.size, i.bytes)) = some (some (.agg #[.bool false, .bool false, .int .i64 0, .int .i64 0, .int .i64 0, .int .i64 0, .int .i64 0, .int .i64 0, .int .i64 0, .int .i64 0, .int .i64 0, .int .i64 0, .int .i64 0, .slice none 0 0, .int .i64 0, .bool false, .slice none 0 0, .int .i64 0, .int .i64 0, .slice none 0 0]), 20, 200) := by kernel_rfl
set_option maxHeartbeats 16000000 in
set_option maxRecDepth 100000 in
theorem refTake {w : World} {lo D C : Nat} {d : DocB} {s : LogS} (h : RefAt w lo D C d s) (hsm : s.tail + 1 ≤ 1000000) (t : Int) (c0 : Bool) (r : Bool) (hr : s.takes t c0 = r) (s' : LogS) (hs' : (if r = true then s.taken c0 else s) = s') :
    Calls Try.prog 48 #[.pointer (some ⟨D, 0, none⟩), .int .i64 t, .bool c0] w fun e w' => e = .returned (.bool r) ∧ (∃ d', RefAt w' lo D C d' s') ∧ Only (DocK lo w) w w' := by
  have c7 : w.cell? ⟨D, 7, none⟩ = some (.slice d.A s.tail d.cap) := h.cell 7
  have c6 : w.cell? ⟨D, 6, none⟩ = some (.int .i64 s.cfg.st) := h.cell 6
  have c1 : w.cell? ⟨D, 1, none⟩ = some (.int .i64 s.cfg.inb) := h.cell 1
  have c8 : w.cell? ⟨D, 8, none⟩ = some (.bool s.closed) := h.cell 8
  have c9 : w.cell? ⟨D, 9, none⟩ = some (.int .i64 s.low) := h.cell 9
  have HH := Lib.hid h
  have hi := h.inv.low
  have hs1 := h.inv.st1
  have hs2 := h.inv.st2
  have hinb := h.inv.inb2
  have hshb := h.inv.sh2
  have stay : ∀ j, (∃ d', RefAt (w.drewN j) lo D C d' s) ∧ Only (DocK lo w) w (w.drewN j) := fun j => ⟨⟨_, HH.out.below (bl_drewN (Below.refl _ w) j)⟩, (Only.refl _ w).drewN j⟩
  have STAY := Lib.hid stay
  clear h stay
  unfold LogS.takes at hr
  by_cases h1 : t = s.tail
  · subst h1
    rw [decide_eq_true rfl, Bool.true_and] at hr
    have e1 : ((s.tail : Int) != s.tail) = false := by simp
    by_cases h2 : (s.tail : Int) = s.cfg.st
    · rw [decide_eq_false (by simpa using h2)] at hr
      simp only [Bool.false_and] at hr
      subst hr
      simp only [Bool.false_eq_true, if_false] at hs'
      subst hs'
      have e2 : ((s.tail : Int) == s.cfg.st) = true := by simpa using h2
      go_enter Try.func48, Try.ntmps48
      go_wp2_with fail
      go_quiet (fail)
      go_wp2_with fail
      go_ret
      exact ⟨rfl, STAY.out _⟩
    · rw [decide_eq_true h2, Bool.true_and] at hr
      have e2 : ((s.tail : Int) == s.cfg.st) = false := by simpa using h2
      have H1 := Lib.hid h2
      by_cases h3 : (s.tail : Int) - s.low < s.cfg.inb
      · rw [decide_eq_true h3, Bool.true_and] at hr
        have d3 : decide ((s.cfg.inb : Int) ≤ (s.tail : Int) - s.low) = false := decide_eq_false (by omega)
        have H2 : Hid (s.tail - s.low < s.cfg.inb) := Lib.hid (by omega)
        obtain ⟨cl, hcl⟩ : ∃ cl, s.closed = cl := ⟨_, rfl⟩
        rw [hcl] at c8 hr
        have HCL := Lib.hid hcl
        clear hcl
        have hmk : ∀ W : World, (Instr.makeSlice 49 (.int .i64 (s.cfg.sh : Int)) (.int .i64 (s.cfg.sh : Int))).run Try.prog W = .ok (.slice (some ⟨W.heap.size, 0, none⟩) s.cfg.sh s.cfg.sh) (W.alloc (.cells (rowF (outOf zOut) s.cfg.sh).toArray 47 (0, 0))) := fun W => by
          rw [← outs_zero]
          exact make_outs s.cfg.sh (by omega) W
        obtain ⟨i0, hi, hz0, hz1, hz2⟩ := info_parts infoCell
        have HALL : Hid (∀ j, RefM ((w.drewN j).drew) lo D (docM d s) ∧ Only (DocK lo w) w ((w.drewN j).drew)) := Lib.hid fun j => ⟨HH.out.mem.below (bl_drew (bl_drewN (Below.refl _ w) j)), ((Only.refl _ w).drewN j).drew⟩
        have HMK := Lib.hid hmk
        clear hmk
        by_cases hcc : c0 = true ∧ cl = true
        · obtain ⟨rfl, rfl⟩ := hcc
          obtain rfl : r = false := hr.symm
          simp only [Bool.false_eq_true, if_false] at hs'
          subst hs'
          go_enter Try.func48, Try.ntmps48
          go_wp2_with fail
          go_quiet (fail)
          go_wp2_with fail
          go_ret
          exact ⟨rfl, STAY.out _⟩
        obtain rfl : r = true := by rw [← hr]; cases c0 <;> cases cl <;> simp_all
        simp only [if_true] at hs'
        subst hs'
        clear hr
        cases c0
        · cases cl
          · skip
            clear hcc
            go_enter Try.func48, Try.ntmps48
            go_wp2_with fail
            go_quiet (fail)
            obtain ⟨hm0, ho0⟩ := HALL.out nq
            have yd : (w.drewN nq).drew.cell? ⟨D, 0, none⟩ = some (.int .i64 s.cfg.sh) := cell_of_blk hm0.hD 0
            have HM1 := Lib.hid hm0
            have HO1 := Lib.hid ho0
            have hmk := HMK.out
            clear hm0 ho0 c7 c6 c1 c8 c9 HALL STAY
            generalize w.drewN nq = w0 at *
            go_wp2_with fail
            refine wp_region_held_drew (S := fun w' => w'.cell? ⟨D, 0, none⟩ = some (.int .i64 s.cfg.sh)) (by kernel_rfl) yd (fun hHeld => ?_)
            generalize w0.drew = w1 at *
            have c7 : w1.cell? ⟨D, 7, none⟩ = some (.slice d.A s.tail d.cap) := cell_of_blk HM1.out.hD 7
            have hm2 : RefM (w1.alloc (.cells (rowF (outOf zOut) s.cfg.sh).toArray 47 (0, 0))) lo D (docM d s) := HM1.out.below (bl_alloc (Below.refl _ _) _)
            have y2 : (w1.alloc (.cells (rowF (outOf zOut) s.cfg.sh).toArray 47 (0, 0))).cell? ⟨D, 0, none⟩ = some (.int .i64 s.cfg.sh) := cell_of_blk hm2.hD 0
            have c72 : (w1.alloc (.cells (rowF (outOf zOut) s.cfg.sh).toArray 47 (0, 0))).cell? ⟨D, 7, none⟩ = some (.slice d.A s.tail d.cap) := cell_of_blk hm2.hD 7
            have hx2 : (w1.alloc (.cells (rowF (outOf zOut) s.cfg.sh).toArray 47 (0, 0))).heap[w1.heap.size]? = some (.cells (rowF (outOf zOut) s.cfg.sh).toArray 47 (0, 0)) := alloc_new _ _
            have hm3 : RefM ((w1.alloc (.cells (rowF (outOf zOut) s.cfg.sh).toArray 47 (0, 0))).alloc (.cells #[.bool false, .bool false, .int .i64 0, .int .i64 0, .int .i64 0, .int .i64 0, .int .i64 0, .int .i64 0, .int .i64 0, .int .i64 0, .int .i64 0, .int .i64 0, .int .i64 0, .slice none 0 0, .int .i64 0, .bool false, .slice (some ⟨w1.heap.size, 0, none⟩) s.cfg.sh s.cfg.sh, .int .i64 0, .int .i64 0, .slice none 0 0] 131)) lo D (docM d s) := hm2.below (bl_alloc (Below.refl _ _) _)
            have y3 : ((w1.alloc (.cells (rowF (outOf zOut) s.cfg.sh).toArray 47 (0, 0))).alloc (.cells #[.bool false, .bool false, .int .i64 0, .int .i64 0, .int .i64 0, .int .i64 0, .int .i64 0, .int .i64 0, .int .i64 0, .int .i64 0, .int .i64 0, .int .i64 0, .int .i64 0, .slice none 0 0, .int .i64 0, .bool false, .slice (some ⟨w1.heap.size, 0, none⟩) s.cfg.sh s.cfg.sh, .int .i64 0, .int .i64 0, .slice none 0 0] 131)).cell? ⟨D, 0, none⟩ = some (.int .i64 s.cfg.sh) := cell_of_blk hm3.hD 0
            have c73 : ((w1.alloc (.cells (rowF (outOf zOut) s.cfg.sh).toArray 47 (0, 0))).alloc (.cells #[.bool false, .bool false, .int .i64 0, .int .i64 0, .int .i64 0, .int .i64 0, .int .i64 0, .int .i64 0, .int .i64 0, .int .i64 0, .int .i64 0, .int .i64 0, .int .i64 0, .slice none 0 0, .int .i64 0, .bool false, .slice (some ⟨w1.heap.size, 0, none⟩) s.cfg.sh s.cfg.sh, .int .i64 0, .int .i64 0, .slice none 0 0] 131)).cell? ⟨D, 7, none⟩ = some (.slice d.A s.tail d.cap) := cell_of_blk hm3.hD 7
            have HX3 : Hid (((w1.alloc (.cells (rowF (outOf zOut) s.cfg.sh).toArray 47 (0, 0))).alloc (.cells #[.bool false, .bool false, .int .i64 0, .int .i64 0, .int .i64 0, .int .i64 0, .int .i64 0, .int .i64 0, .int .i64 0, .int .i64 0, .int .i64 0, .int .i64 0, .int .i64 0, .slice none 0 0, .int .i64 0, .bool false, .slice (some ⟨w1.heap.size, 0, none⟩) s.cfg.sh s.cfg.sh, .int .i64 0, .int .i64 0, .slice none 0 0] 131)).heap[w1.heap.size]? = some (.cells (rowF (outOf zOut) s.cfg.sh).toArray 47 (0, 0))) := Lib.hid (alloc_old hx2 _)
            have HN3 : Hid (((w1.alloc (.cells (rowF (outOf zOut) s.cfg.sh).toArray 47 (0, 0))).alloc (.cells #[.bool false, .bool false, .int .i64 0, .int .i64 0, .int .i64 0, .int .i64 0, .int .i64 0, .int .i64 0, .int .i64 0, .int .i64 0, .int .i64 0, .int .i64 0, .int .i64 0, .slice none 0 0, .int .i64 0, .bool false, .slice (some ⟨w1.heap.size, 0, none⟩) s.cfg.sh s.cfg.sh, .int .i64 0, .int .i64 0, .slice none 0 0] 131)).heap[w1.heap.size + 1]? = some (.cells #[.bool false, .bool false, .int .i64 0, .int .i64 0, .int .i64 0, .int .i64 0, .int .i64 0, .int .i64 0, .int .i64 0, .int .i64 0, .int .i64 0, .int .i64 0, .int .i64 0, .slice none 0 0, .int .i64 0, .bool false, .slice (some ⟨w1.heap.size, 0, none⟩) s.cfg.sh s.cfg.sh, .int .i64 0, .int .i64 0, .slice none 0 0] 131 (0, 0))) := Lib.hid (alloc_at (by simp) _)
            have HM3 := Lib.hid hm3
            have HO3 : Hid (Only (DocK lo w) w ((w1.alloc (.cells (rowF (outOf zOut) s.cfg.sh).toArray 47 (0, 0))).alloc (.cells #[.bool false, .bool false, .int .i64 0, .int .i64 0, .int .i64 0, .int .i64 0, .int .i64 0, .int .i64 0, .int .i64 0, .int .i64 0, .int .i64 0, .int .i64 0, .int .i64 0, .slice none 0 0, .int .i64 0, .bool false, .slice (some ⟨w1.heap.size, 0, none⟩) s.cfg.sh s.cfg.sh, .int .i64 0, .int .i64 0, .slice none 0 0] 131))) := Lib.hid ((HO1.out.alloc _).alloc _)
            have HLOX : Hid (lo ≤ w1.heap.size) := Lib.hid (by have := block_lt HM1.out.hD; have := HM1.out.lo.1; omega)
            have HLO3 : Hid (lo ≤ ((w1.alloc (.cells (rowF (outOf zOut) s.cfg.sh).toArray 47 (0, 0))).alloc (.cells #[.bool false, .bool false, .int .i64 0, .int .i64 0, .int .i64 0, .int .i64 0, .int .i64 0, .int .i64 0, .int .i64 0, .int .i64 0, .int .i64 0, .int .i64 0, .int .i64 0, .slice none 0 0, .int .i64 0, .bool false, .slice (some ⟨w1.heap.size, 0, none⟩) s.cfg.sh s.cfg.sh, .int .i64 0, .int .i64 0, .slice none 0 0] 131)).heap.size) := Lib.hid (by have := HLOX.out; simp only [World.size_alloc]; omega)
            have HFR : Hid (∀ p, p < s.tail → d.ob p ≠ w1.heap.size) := Lib.hid fun p hp => by have := block_lt (HM1.out.outs p hp); change d.ob p < _ at this; omega
            clear hm2 hx2 hm3
            refine' wpAnyH_take (i := 0) (oi := ⟨some 48, _, _, _, _, _⟩) (v := ?v1ff) rfl (by kernel_rfl) (by kernel_rfl) (by kernel_rfl) (fun _ _ _ h => h) (Or.inl ⟨by rfl, ?hy1ff⟩) hHeld ?rest1ff
            case hy1ff => (intro W hSw; go_simp; first | done | with_reducible rfl)
            simp only [Act.put, List.setIfInBounds_toArray, List.set_cons_zero, List.set_cons_succ]
            refine' wpAnyH_take (i := 1) (oi := ⟨some 49, _, _, _, _, _⟩) (v := ?v2ff) rfl (by kernel_rfl) (by kernel_rfl) (by kernel_rfl) (fun _ _ _ h => h) (Or.inl ⟨by rfl, ?hy2ff⟩) hHeld ?rest2ff
            case hy2ff => (intro W hSw; go_simp; first | done | with_reducible rfl)
            simp only [Act.put, List.setIfInBounds_toArray, List.set_cons_zero, List.set_cons_succ]
            refine' wpAnyH_take (i := 2) (oi := ⟨some 50, _, _, _, _, _⟩) (v := ?v3ff) rfl (by kernel_rfl) (by kernel_rfl) (by kernel_rfl) (fun _ _ _ h => h) (Or.inl ⟨by rfl, ?hy3ff⟩) hHeld ?rest3ff
            case hy3ff => (intro W hSw; go_simp; first | done | with_reducible rfl)
            simp only [Act.put, List.setIfInBounds_toArray, List.set_cons_zero, List.set_cons_succ]
            refine' wpAnyH_take (i := 3) (oi := ⟨some 51, _, _, _, _, _⟩) (v := ?v4ff) rfl (by kernel_rfl) (by kernel_rfl) (by kernel_rfl) (fun _ _ _ h => h) (Or.inl ⟨by rfl, ?hy4ff⟩) hHeld ?rest4ff
            case hy4ff => (intro W hSw; go_simp; first | done | with_reducible rfl)
            simp only [Act.put, List.setIfInBounds_toArray, List.set_cons_zero, List.set_cons_succ]
            refine' wpAnyH_take (i := 5) (oi := ⟨some 53, _, _, _, _, _⟩) (v := ?v5ff) rfl (by kernel_rfl) (by kernel_rfl) (by kernel_rfl) (fun _ _ _ h => h) (Or.inl ⟨by rfl, ?hy5ff⟩) hHeld ?rest5ff
            case hy5ff => (intro W hSw; go_simp; first | done | with_reducible rfl)
            simp only [Act.put, List.setIfInBounds_toArray, List.set_cons_zero, List.set_cons_succ]
            refine' wpAnyH_take (i := 6) (oi := ⟨some 54, _, _, _, _, _⟩) (v := ?v6ff) rfl (by kernel_rfl) (by kernel_rfl) (by kernel_rfl) (fun _ _ _ h => h) (Or.inl ⟨by rfl, ?hy6ff⟩) hHeld ?rest6ff
            case hy6ff => (intro W hSw; go_simp; first | done | with_reducible rfl)
            simp only [Act.put, List.setIfInBounds_toArray, List.set_cons_zero, List.set_cons_succ]
            refine' wpAnyH_take (i := 7) (oi := ⟨some 55, _, _, _, _, _⟩) (v := ?v7ff) rfl (by kernel_rfl) (by kernel_rfl) (by kernel_rfl) (fun _ _ _ h => h) (Or.inl ⟨by rfl, ?hy7ff⟩) hHeld ?rest7ff
            case hy7ff => (intro W hSw; go_simp; first | done | with_reducible rfl)
            simp only [Act.put, List.setIfInBounds_toArray, List.set_cons_zero, List.set_cons_succ]
            refine' wpAnyH_take (i := 8) (oi := ⟨some 56, _, _, _, _, _⟩) (v := ?v8ff) rfl (by kernel_rfl) (by kernel_rfl) (by kernel_rfl) (fun _ _ _ h => h) (Or.inl ⟨by rfl, ?hy8ff⟩) hHeld ?rest8ff
            case hy8ff => (intro W hSw; go_simp; first | done | with_reducible rfl)
            simp only [Act.put, List.setIfInBounds_toArray, List.set_cons_zero, List.set_cons_succ]
            refine' wpAnyH_take (i := 9) (oi := ⟨some 57, _, _, _, _, _⟩) (v := ?v9ff) rfl (by kernel_rfl) (by kernel_rfl) (by kernel_rfl) (fun _ _ _ h => h) (Or.inl ⟨by rfl, ?hy9ff⟩) hHeld ?rest9ff
            case hy9ff => (intro W hSw; go_simp; first | done | with_reducible rfl)
            simp only [Act.put, List.setIfInBounds_toArray, List.set_cons_zero, List.set_cons_succ]
            refine wpAnyH_ready (rs := [4, 10]) (by kernel_rfl) (by simp) ?_
            refine AllReadyH.cons (o := ⟨some 52, _, _, _, _, _⟩) rfl (fun K hK => ?_) (AllReadyH.cons (o := ⟨some 58, _, _, _, _, _⟩) rfl (fun K hK => ?_) AllReadyH.nil)
            · go_simp
              refine hK.out _ _ hHeld (fun hHeld => ?_)
              clear hK K
              try simp only [Act.put, List.setIfInBounds_toArray, List.set_cons_zero, List.set_cons_succ]
              refine wpAnyH_ready (rs := [10]) (by kernel_rfl) (by simp) ?_
              refine AllReadyH.cons (o := ⟨some 58, _, _, _, _, _⟩) rfl (fun K hK => ?_) AllReadyH.nil
              go_simp
              refine hK.out _ _ y2 (fun hHeld => ?_)
              clear hK K
              try simp only [Act.put, List.setIfInBounds_toArray, List.set_cons_zero, List.set_cons_succ]
              refine' wpAnyH_take (i := 11) (oi := ⟨some 59, _, _, _, _, _⟩) (v := ?v10ff) rfl (by kernel_rfl) (by kernel_rfl) (by kernel_rfl) (fun _ _ _ h => h) (Or.inl ⟨by rfl, ?hy10ff⟩) hHeld ?rest10ff
              case hy10ff => (intro W hSw; go_simp; first | done | with_reducible rfl)
              simp only [Act.put, List.setIfInBounds_toArray, List.set_cons_zero, List.set_cons_succ]
              refine wpAnyH_ready (rs := [12]) (by kernel_rfl) (by simp) ?_
              refine AllReadyH.cons (o := ⟨some 60, _, _, _, _, _⟩) rfl (fun K hK => ?_) AllReadyH.nil
              go_simp
              refine hK.out _ _ y3 (fun hHeld => ?_)
              clear hK K
              try simp only [Act.put, List.setIfInBounds_toArray, List.set_cons_zero, List.set_cons_succ]
              refine wpAnyH_ready (rs := [13]) (by kernel_rfl) (by simp) ?_
              refine AllReadyH.cons (o := ⟨some 61, _, _, _, _, _⟩) rfl (fun K hK => ?_) AllReadyH.nil
              refine step_append_lies _ (by rfl) _ _ _ (by rfl) lo 131 i0 _ 20 200 Try.underlying103 hi hz0 hz1 hz2 rfl (by decide) (.slice d.A s.tail d.cap) s.tail (rowF (cellOf d s) s.tail) (by rfl) HM3.out.cells ⟨w1.heap.size + 1, 0, none⟩ 1 1 (newCell w1.heap.size s.cfg.sh) (by rfl) (by rfl) (World.news_of_block (cs := #[.bool false, .bool false, .int .i64 0, .int .i64 0, .int .i64 0, .int .i64 0, .int .i64 0, .int .i64 0, .int .i64 0, .int .i64 0, .int .i64 0, .int .i64 0, .int .i64 0, .slice none 0 0, .int .i64 0, .bool false, .slice (some ⟨w1.heap.size, 0, none⟩) s.cfg.sh s.cfg.sh, .int .i64 0, .int .i64 0, .slice none 0 0]) (t := 131) (fr := (0, 0)) HN3.out) (by simp [newCell, Value.oneCell']) (by decide) (by simp only [maxLen]; omega) (by omega) HLO3.out _ rfl ?_
              intro g cap w7 hown hgr hat hlt7
              obtain ⟨_, hD7, hm7, ho7⟩ := HM3.out.grown HX3.out HLOX.out HFR.out hown hgr
              have y7 : w7.cell? ⟨D, 0, none⟩ = some (.int .i64 s.cfg.sh) := cell_of_blk (cs := docCells d s) hD7 0
              have c7' : w7.cell? ⟨D, 7, none⟩ = some (.slice d.A s.tail d.cap) := cell_of_blk (cs := docCells d s) hD7 7
              have f7' : w7.frozen? ⟨D, 7, none⟩ = false := free_of_blk (cs := docCells d s) hD7 7
              have y8 : (w7.setCell ⟨D, 7, none⟩ (.slice (some ⟨g, 0, none⟩) (s.tail + 1) cap)).cell? ⟨D, 0, none⟩ = some (.int .i64 s.cfg.sh) := cell_of_blk hm7.hD 0
              have c8 : (w7.setCell ⟨D, 7, none⟩ (.slice (some ⟨g, 0, none⟩) (s.tail + 1) cap)).cell? ⟨D, 8, none⟩ = some (.bool s.closed) := cell_of_blk hm7.hD 8
              have f8 : (w7.setCell ⟨D, 7, none⟩ (.slice (some ⟨g, 0, none⟩) (s.tail + 1) cap)).frozen? ⟨D, 8, none⟩ = false := free_of_blk hm7.hD 8
              have HM8 := Lib.hid (hm7.headset 8 (.bool false))
              have HO8 := Lib.hid (only_dock (only_dock HO3.out ho7) (((Only.refl (DocK lo w7) w7).setCell ⟨D, 7, none⟩ (.slice (some ⟨g, 0, none⟩) (s.tail + 1) cap) (.inl ⟨HM3.out.lo.1, _, _, _, hD7, .inl rfl⟩)).setCell ⟨D, 8, none⟩ (.bool false) (.inl ⟨HM3.out.lo.1, _, _, _, hD7, .inl rfl⟩)))
              rw [HCL.out] at c8
              clear hown hgr hat hlt7 hD7 hm7 ho7
              refine hK.out _ _ y7 (fun hHeld => ?_)
              clear hK K
              try simp only [Act.put, List.setIfInBounds_toArray, List.set_cons_zero, List.set_cons_succ]
              refine' wpAnyH_take (i := 14) (oi := ⟨some 62, _, _, _, _, _⟩) (v := ?v11ff) rfl (by kernel_rfl) (by kernel_rfl) (by kernel_rfl) (fun _ _ _ h => h) (Or.inl ⟨by rfl, ?hy11ff⟩) hHeld ?rest11ff
              case hy11ff => (intro W hSw; go_simp; first | done | with_reducible rfl)
              simp only [Act.put, List.setIfInBounds_toArray, List.set_cons_zero, List.set_cons_succ]
              refine' wpAnyH_take (i := 15) (oi := ⟨some 63, _, _, _, _, _⟩) (v := ?v12ff) rfl (by kernel_rfl) (by kernel_rfl) (by kernel_rfl) (fun _ _ _ h => h) (Or.inl ⟨by rfl, ?hy12ff⟩) hHeld ?rest12ff
              case hy12ff => (intro W hSw; go_simp; first | done | with_reducible rfl)
              simp only [Act.put, List.setIfInBounds_toArray, List.set_cons_zero, List.set_cons_succ]
              refine wpAnyH_ready (rs := [16]) (by kernel_rfl) (by simp) ?_
              refine AllReadyH.cons (o := ⟨none, _, _, _, _, _⟩) rfl (fun K hK => ?_) AllReadyH.nil
              go_simp
              refine hK.out _ _ y8 (fun hHeld => ?_)
              clear hK K
              try simp only [Act.put, List.setIfInBounds_toArray, List.set_cons_zero, List.set_cons_succ]
              refine wpAnyH_done (by kernel_rfl) ?_ _
              go_wp2_with fail
              go_ret
              exact ⟨rfl, ⟨_, HH.out.taken false H1.out H2.out hsm HO8.out (by rw [HCL.out]; exact HM8.out)⟩, HO8.out⟩
            · go_simp
              refine hK.out _ _ y2 (fun hHeld => ?_)
              clear hK K
              try simp only [Act.put, List.setIfInBounds_toArray, List.set_cons_zero, List.set_cons_succ]
              refine' wpAnyH_take (i := 11) (oi := ⟨some 59, _, _, _, _, _⟩) (v := ?v13ff) rfl (by kernel_rfl) (by kernel_rfl) (by kernel_rfl) (fun _ _ _ h => h) (Or.inl ⟨by rfl, ?hy13ff⟩) hHeld ?rest13ff
              case hy13ff => (intro W hSw; go_simp; first | done | with_reducible rfl)
              simp only [Act.put, List.setIfInBounds_toArray, List.set_cons_zero, List.set_cons_succ]
              refine wpAnyH_ready (rs := [4, 12]) (by kernel_rfl) (by simp) ?_
              refine AllReadyH.cons (o := ⟨some 52, _, _, _, _, _⟩) rfl (fun K hK => ?_) (AllReadyH.cons (o := ⟨some 60, _, _, _, _, _⟩) rfl (fun K hK => ?_) AllReadyH.nil)
              · go_simp
                refine hK.out _ _ hHeld (fun hHeld => ?_)
                clear hK K
                try simp only [Act.put, List.setIfInBounds_toArray, List.set_cons_zero, List.set_cons_succ]
                refine wpAnyH_ready (rs := [12]) (by kernel_rfl) (by simp) ?_
                refine AllReadyH.cons (o := ⟨some 60, _, _, _, _, _⟩) rfl (fun K hK => ?_) AllReadyH.nil
                go_simp
                refine hK.out _ _ y3 (fun hHeld => ?_)
                clear hK K
                try simp only [Act.put, List.setIfInBounds_toArray, List.set_cons_zero, List.set_cons_succ]
                refine wpAnyH_ready (rs := [13]) (by kernel_rfl) (by simp) ?_
                refine AllReadyH.cons (o := ⟨some 61, _, _, _, _, _⟩) rfl (fun K hK => ?_) AllReadyH.nil
                refine step_append_lies _ (by rfl) _ _ _ (by rfl) lo 131 i0 _ 20 200 Try.underlying103 hi hz0 hz1 hz2 rfl (by decide) (.slice d.A s.tail d.cap) s.tail (rowF (cellOf d s) s.tail) (by rfl) HM3.out.cells ⟨w1.heap.size + 1, 0, none⟩ 1 1 (newCell w1.heap.size s.cfg.sh) (by rfl) (by rfl) (World.news_of_block (cs := #[.bool false, .bool false, .int .i64 0, .int .i64 0, .int .i64 0, .int .i64 0, .int .i64 0, .int .i64 0, .int .i64 0, .int .i64 0, .int .i64 0, .int .i64 0, .int .i64 0, .slice none 0 0, .int .i64 0, .bool false, .slice (some ⟨w1.heap.size, 0, none⟩) s.cfg.sh s.cfg.sh, .int .i64 0, .int .i64 0, .slice none 0 0]) (t := 131) (fr := (0, 0)) HN3.out) (by simp [newCell, Value.oneCell']) (by decide) (by simp only [maxLen]; omega) (by omega) HLO3.out _ rfl ?_
                intro g cap w7 hown hgr hat hlt7
                obtain ⟨_, hD7, hm7, ho7⟩ := HM3.out.grown HX3.out HLOX.out HFR.out hown hgr
                have y7 : w7.cell? ⟨D, 0, none⟩ = some (.int .i64 s.cfg.sh) := cell_of_blk (cs := docCells d s) hD7 0
                have c7' : w7.cell? ⟨D, 7, none⟩ = some (.slice d.A s.tail d.cap) := cell_of_blk (cs := docCells d s) hD7 7
                have f7' : w7.frozen? ⟨D, 7, none⟩ = false := free_of_blk (cs := docCells d s) hD7 7
                have y8 : (w7.setCell ⟨D, 7, none⟩ (.slice (some ⟨g, 0, none⟩) (s.tail + 1) cap)).cell? ⟨D, 0, none⟩ = some (.int .i64 s.cfg.sh) := cell_of_blk hm7.hD 0
                have c8 : (w7.setCell ⟨D, 7, none⟩ (.slice (some ⟨g, 0, none⟩) (s.tail + 1) cap)).cell? ⟨D, 8, none⟩ = some (.bool s.closed) := cell_of_blk hm7.hD 8
                have f8 : (w7.setCell ⟨D, 7, none⟩ (.slice (some ⟨g, 0, none⟩) (s.tail + 1) cap)).frozen? ⟨D, 8, none⟩ = false := free_of_blk hm7.hD 8
                have HM8 := Lib.hid (hm7.headset 8 (.bool false))
                have HO8 := Lib.hid (only_dock (only_dock HO3.out ho7) (((Only.refl (DocK lo w7) w7).setCell ⟨D, 7, none⟩ (.slice (some ⟨g, 0, none⟩) (s.tail + 1) cap) (.inl ⟨HM3.out.lo.1, _, _, _, hD7, .inl rfl⟩)).setCell ⟨D, 8, none⟩ (.bool false) (.inl ⟨HM3.out.lo.1, _, _, _, hD7, .inl rfl⟩)))
                rw [HCL.out] at c8
                clear hown hgr hat hlt7 hD7 hm7 ho7
                refine hK.out _ _ y7 (fun hHeld => ?_)
                clear hK K
                try simp only [Act.put, List.setIfInBounds_toArray, List.set_cons_zero, List.set_cons_succ]
                refine' wpAnyH_take (i := 14) (oi := ⟨some 62, _, _, _, _, _⟩) (v := ?v14ff) rfl (by kernel_rfl) (by kernel_rfl) (by kernel_rfl) (fun _ _ _ h => h) (Or.inl ⟨by rfl, ?hy14ff⟩) hHeld ?rest14ff
                case hy14ff => (intro W hSw; go_simp; first | done | with_reducible rfl)
                simp only [Act.put, List.setIfInBounds_toArray, List.set_cons_zero, List.set_cons_succ]
                refine' wpAnyH_take (i := 15) (oi := ⟨some 63, _, _, _, _, _⟩) (v := ?v15ff) rfl (by kernel_rfl) (by kernel_rfl) (by kernel_rfl) (fun _ _ _ h => h) (Or.inl ⟨by rfl, ?hy15ff⟩) hHeld ?rest15ff
                case hy15ff => (intro W hSw; go_simp; first | done | with_reducible rfl)
                simp only [Act.put, List.setIfInBounds_toArray, List.set_cons_zero, List.set_cons_succ]
                refine wpAnyH_ready (rs := [16]) (by kernel_rfl) (by simp) ?_
                refine AllReadyH.cons (o := ⟨none, _, _, _, _, _⟩) rfl (fun K hK => ?_) AllReadyH.nil
                go_simp
                refine hK.out _ _ y8 (fun hHeld => ?_)
                clear hK K
                try simp only [Act.put, List.setIfInBounds_toArray, List.set_cons_zero, List.set_cons_succ]
                refine wpAnyH_done (by kernel_rfl) ?_ _
                go_wp2_with fail
                go_ret
                exact ⟨rfl, ⟨_, HH.out.taken false H1.out H2.out hsm HO8.out (by rw [HCL.out]; exact HM8.out)⟩, HO8.out⟩
              · go_simp
                refine hK.out _ _ y3 (fun hHeld => ?_)
                clear hK K
                try simp only [Act.put, List.setIfInBounds_toArray, List.set_cons_zero, List.set_cons_succ]
                refine wpAnyH_ready (rs := [4]) (by kernel_rfl) (by simp) ?_
                refine AllReadyH.cons (o := ⟨some 52, _, _, _, _, _⟩) rfl (fun K hK => ?_) AllReadyH.nil
                go_simp
                refine hK.out _ _ hHeld (fun hHeld => ?_)
                clear hK K
                try simp only [Act.put, List.setIfInBounds_toArray, List.set_cons_zero, List.set_cons_succ]
                refine wpAnyH_ready (rs := [13]) (by kernel_rfl) (by simp) ?_
                refine AllReadyH.cons (o := ⟨some 61, _, _, _, _, _⟩) rfl (fun K hK => ?_) AllReadyH.nil
                refine step_append_lies _ (by rfl) _ _ _ (by rfl) lo 131 i0 _ 20 200 Try.underlying103 hi hz0 hz1 hz2 rfl (by decide) (.slice d.A s.tail d.cap) s.tail (rowF (cellOf d s) s.tail) (by rfl) HM3.out.cells ⟨w1.heap.size + 1, 0, none⟩ 1 1 (newCell w1.heap.size s.cfg.sh) (by rfl) (by rfl) (World.news_of_block (cs := #[.bool false, .bool false, .int .i64 0, .int .i64 0, .int .i64 0, .int .i64 0, .int .i64 0, .int .i64 0, .int .i64 0, .int .i64 0, .int .i64 0, .int .i64 0, .int .i64 0, .slice none 0 0, .int .i64 0, .bool false, .slice (some ⟨w1.heap.size, 0, none⟩) s.cfg.sh s.cfg.sh, .int .i64 0, .int .i64 0, .slice none 0 0]) (t := 131) (fr := (0, 0)) HN3.out) (by simp [newCell, Value.oneCell']) (by decide) (by simp only [maxLen]; omega) (by omega) HLO3.out _ rfl ?_
                intro g cap w7 hown hgr hat hlt7
                obtain ⟨_, hD7, hm7, ho7⟩ := HM3.out.grown HX3.out HLOX.out HFR.out hown hgr
                have y7 : w7.cell? ⟨D, 0, none⟩ = some (.int .i64 s.cfg.sh) := cell_of_blk (cs := docCells d s) hD7 0
                have c7' : w7.cell? ⟨D, 7, none⟩ = some (.slice d.A s.tail d.cap) := cell_of_blk (cs := docCells d s) hD7 7
                have f7' : w7.frozen? ⟨D, 7, none⟩ = false := free_of_blk (cs := docCells d s) hD7 7
                have y8 : (w7.setCell ⟨D, 7, none⟩ (.slice (some ⟨g, 0, none⟩) (s.tail + 1) cap)).cell? ⟨D, 0, none⟩ = some (.int .i64 s.cfg.sh) := cell_of_blk hm7.hD 0
                have c8 : (w7.setCell ⟨D, 7, none⟩ (.slice (some ⟨g, 0, none⟩) (s.tail + 1) cap)).cell? ⟨D, 8, none⟩ = some (.bool s.closed) := cell_of_blk hm7.hD 8
                have f8 : (w7.setCell ⟨D, 7, none⟩ (.slice (some ⟨g, 0, none⟩) (s.tail + 1) cap)).frozen? ⟨D, 8, none⟩ = false := free_of_blk hm7.hD 8
                have HM8 := Lib.hid (hm7.headset 8 (.bool false))
                have HO8 := Lib.hid (only_dock (only_dock HO3.out ho7) (((Only.refl (DocK lo w7) w7).setCell ⟨D, 7, none⟩ (.slice (some ⟨g, 0, none⟩) (s.tail + 1) cap) (.inl ⟨HM3.out.lo.1, _, _, _, hD7, .inl rfl⟩)).setCell ⟨D, 8, none⟩ (.bool false) (.inl ⟨HM3.out.lo.1, _, _, _, hD7, .inl rfl⟩)))
                rw [HCL.out] at c8
                clear hown hgr hat hlt7 hD7 hm7 ho7
                refine hK.out _ _ y7 (fun hHeld => ?_)
                clear hK K
                try simp only [Act.put, List.setIfInBounds_toArray, List.set_cons_zero, List.set_cons_succ]
                refine' wpAnyH_take (i := 14) (oi := ⟨some 62, _, _, _, _, _⟩) (v := ?v16ff) rfl (by kernel_rfl) (by kernel_rfl) (by kernel_rfl) (fun _ _ _ h => h) (Or.inl ⟨by rfl, ?hy16ff⟩) hHeld ?rest16ff
                case hy16ff => (intro W hSw; go_simp; first | done | with_reducible rfl)
                simp only [Act.put, List.setIfInBounds_toArray, List.set_cons_zero, List.set_cons_succ]
                refine' wpAnyH_take (i := 15) (oi := ⟨some 63, _, _, _, _, _⟩) (v := ?v17ff) rfl (by kernel_rfl) (by kernel_rfl) (by kernel_rfl) (fun _ _ _ h => h) (Or.inl ⟨by rfl, ?hy17ff⟩) hHeld ?rest17ff
                case hy17ff => (intro W hSw; go_simp; first | done | with_reducible rfl)
                simp only [Act.put, List.setIfInBounds_toArray, List.set_cons_zero, List.set_cons_succ]
                refine wpAnyH_ready (rs := [16]) (by kernel_rfl) (by simp) ?_
                refine AllReadyH.cons (o := ⟨none, _, _, _, _, _⟩) rfl (fun K hK => ?_) AllReadyH.nil
                go_simp
                refine hK.out _ _ y8 (fun hHeld => ?_)
                clear hK K
                try simp only [Act.put, List.setIfInBounds_toArray, List.set_cons_zero, List.set_cons_succ]
                refine wpAnyH_done (by kernel_rfl) ?_ _
                go_wp2_with fail
                go_ret
                exact ⟨rfl, ⟨_, HH.out.taken false H1.out H2.out hsm HO8.out (by rw [HCL.out]; exact HM8.out)⟩, HO8.out⟩
          · skip
            clear hcc
            go_enter Try.func48, Try.ntmps48
            go_wp2_with fail
            go_quiet (fail)
            obtain ⟨hm0, ho0⟩ := HALL.out nq
            have yd : (w.drewN nq).drew.cell? ⟨D, 0, none⟩ = some (.int .i64 s.cfg.sh) := cell_of_blk hm0.hD 0
            have HM1 := Lib.hid hm0
            have HO1 := Lib.hid ho0
            have hmk := HMK.out
            clear hm0 ho0 c7 c6 c1 c8 c9 HALL STAY
            generalize w.drewN nq = w0 at *
            go_wp2_with fail
            refine wp_region_held_drew (S := fun w' => w'.cell? ⟨D, 0, none⟩ = some (.int .i64 s.cfg.sh)) (by kernel_rfl) yd (fun hHeld => ?_)
            generalize w0.drew = w1 at *
            have c7 : w1.cell? ⟨D, 7, none⟩ = some (.slice d.A s.tail d.cap) := cell_of_blk HM1.out.hD 7
            have hm2 : RefM (w1.alloc (.cells (rowF (outOf zOut) s.cfg.sh).toArray 47 (0, 0))) lo D (docM d s) := HM1.out.below (bl_alloc (Below.refl _ _) _)
            have y2 : (w1.alloc (.cells (rowF (outOf zOut) s.cfg.sh).toArray 47 (0, 0))).cell? ⟨D, 0, none⟩ = some (.int .i64 s.cfg.sh) := cell_of_blk hm2.hD 0
            have c72 : (w1.alloc (.cells (rowF (outOf zOut) s.cfg.sh).toArray 47 (0, 0))).cell? ⟨D, 7, none⟩ = some (.slice d.A s.tail d.cap) := cell_of_blk hm2.hD 7
            have hx2 : (w1.alloc (.cells (rowF (outOf zOut) s.cfg.sh).toArray 47 (0, 0))).heap[w1.heap.size]? = some (.cells (rowF (outOf zOut) s.cfg.sh).toArray 47 (0, 0)) := alloc_new _ _
            have hm3 : RefM ((w1.alloc (.cells (rowF (outOf zOut) s.cfg.sh).toArray 47 (0, 0))).alloc (.cells #[.bool false, .bool false, .int .i64 0, .int .i64 0, .int .i64 0, .int .i64 0, .int .i64 0, .int .i64 0, .int .i64 0, .int .i64 0, .int .i64 0, .int .i64 0, .int .i64 0, .slice none 0 0, .int .i64 0, .bool false, .slice (some ⟨w1.heap.size, 0, none⟩) s.cfg.sh s.cfg.sh, .int .i64 0, .int .i64 0, .slice none 0 0] 131)) lo D (docM d s) := hm2.below (bl_alloc (Below.refl _ _) _)
            have y3 : ((w1.alloc (.cells (rowF (outOf zOut) s.cfg.sh).toArray 47 (0, 0))).alloc (.cells #[.bool false, .bool false, .int .i64 0, .int .i64 0, .int .i64 0, .int .i64 0, .int .i64 0, .int .i64 0, .int .i64 0, .int .i64 0, .int .i64 0, .int .i64 0, .int .i64 0, .slice none 0 0, .int .i64 0, .bool false, .slice (some ⟨w1.heap.size, 0, none⟩) s.cfg.sh s.cfg.sh, .int .i64 0, .int .i64 0, .slice none 0 0] 131)).cell? ⟨D, 0, none⟩ = some (.int .i64 s.cfg.sh) := cell_of_blk hm3.hD 0
            have c73 : ((w1.alloc (.cells (rowF (outOf zOut) s.cfg.sh).toArray 47 (0, 0))).alloc (.cells #[.bool false, .bool false, .int .i64 0, .int .i64 0, .int .i64 0, .int .i64 0, .int .i64 0, .int .i64 0, .int .i64 0, .int .i64 0, .int .i64 0, .int .i64 0, .int .i64 0, .slice none 0 0, .int .i64 0, .bool false, .slice (some ⟨w1.heap.size, 0, none⟩) s.cfg.sh s.cfg.sh, .int .i64 0, .int .i64 0, .slice none 0 0] 131)).cell? ⟨D, 7, none⟩ = some (.slice d.A s.tail d.cap) := cell_of_blk hm3.hD 7
            have HX3 : Hid (((w1.alloc (.cells (rowF (outOf zOut) s.cfg.sh).toArray 47 (0, 0))).alloc (.cells #[.bool false, .bool false, .int .i64 0, .int .i64 0, .int .i64 0, .int .i64 0, .int .i64 0, .int .i64 0, .int .i64 0, .int .i64 0, .int .i64 0, .int .i64 0, .int .i64 0, .slice none 0 0, .int .i64 0, .bool false, .slice (some ⟨w1.heap.size, 0, none⟩) s.cfg.sh s.cfg.sh, .int .i64 0, .int .i64 0, .slice none 0 0] 131)).heap[w1.heap.size]? = some (.cells (rowF (outOf zOut) s.cfg.sh).toArray 47 (0, 0))) := Lib.hid (alloc_old hx2 _)
            have HN3 : Hid (((w1.alloc (.cells (rowF (outOf zOut) s.cfg.sh).toArray 47 (0, 0))).alloc (.cells #[.bool false, .bool false, .int .i64 0, .int .i64 0, .int .i64 0, .int .i64 0, .int .i64 0, .int .i64 0, .int .i64 0, .int .i64 0, .int .i64 0, .int .i64 0, .int .i64 0, .slice none 0 0, .int .i64 0, .bool false, .slice (some ⟨w1.heap.size, 0, none⟩) s.cfg.sh s.cfg.sh, .int .i64 0, .int .i64 0, .slice none 0 0] 131)).heap[w1.heap.size + 1]? = some (.cells #[.bool false, .bool false, .int .i64 0, .int .i64 0, .int .i64 0, .int .i64 0, .int .i64 0, .int .i64 0, .int .i64 0, .int .i64 0, .int .i64 0, .int .i64 0, .int .i64 0, .slice none 0 0, .int .i64 0, .bool false, .slice (some ⟨w1.heap.size, 0, none⟩) s.cfg.sh s.cfg.sh, .int .i64 0, .int .i64 0, .slice none 0 0] 131 (0, 0))) := Lib.hid (alloc_at (by simp) _)
            have HM3 := Lib.hid hm3
            have HO3 : Hid (Only (DocK lo w) w ((w1.alloc (.cells (rowF (outOf zOut) s.cfg.sh).toArray 47 (0, 0))).alloc (.cells #[.bool false, .bool false, .int .i64 0, .int .i64 0, .int .i64 0, .int .i64 0, .int .i64 0, .int .i64 0, .int .i64 0, .int .i64 0, .int .i64 0, .int .i64 0, .int .i64 0, .slice none 0 0, .int .i64 0, .bool false, .slice (some ⟨w1.heap.size, 0, none⟩) s.cfg.sh s.cfg.sh, .int .i64 0, .int .i64 0, .slice none 0 0] 131))) := Lib.hid ((HO1.out.alloc _).alloc _)
            have HLOX : Hid (lo ≤ w1.heap.size) := Lib.hid (by have := block_lt HM1.out.hD; have := HM1.out.lo.1; omega)
            have HLO3 : Hid (lo ≤ ((w1.alloc (.cells (rowF (outOf zOut) s.cfg.sh).toArray 47 (0, 0))).alloc (.cells #[.bool false, .bool false, .int .i64 0, .int .i64 0, .int .i64 0, .int .i64 0, .int .i64 0, .int .i64 0, .int .i64 0, .int .i64 0, .int .i64 0, .int .i64 0, .int .i64 0, .slice none 0 0, .int .i64 0, .bool false, .slice (some ⟨w1.heap.size, 0, none⟩) s.cfg.sh s.cfg.sh, .int .i64 0, .int .i64 0, .slice none 0 0] 131)).heap.size) := Lib.hid (by have := HLOX.out; simp only [World.size_alloc]; omega)
            have HFR : Hid (∀ p, p < s.tail → d.ob p ≠ w1.heap.size) := Lib.hid fun p hp => by have := block_lt (HM1.out.outs p hp); change d.ob p < _ at this; omega
            clear hm2 hx2 hm3
            refine' wpAnyH_take (i := 0) (oi := ⟨some 48, _, _, _, _, _⟩) (v := ?v1ft) rfl (by kernel_rfl) (by kernel_rfl) (by kernel_rfl) (fun _ _ _ h => h) (Or.inl ⟨by rfl, ?hy1ft⟩) hHeld ?rest1ft
            case hy1ft => (intro W hSw; go_simp; first | done | with_reducible rfl)
            simp only [Act.put, List.setIfInBounds_toArray, List.set_cons_zero, List.set_cons_succ]
            refine' wpAnyH_take (i := 1) (oi := ⟨some 49, _, _, _, _, _⟩) (v := ?v2ft) rfl (by kernel_rfl) (by kernel_rfl) (by kernel_rfl) (fun _ _ _ h => h) (Or.inl ⟨by rfl, ?hy2ft⟩) hHeld ?rest2ft
            case hy2ft => (intro W hSw; go_simp; first | done | with_reducible rfl)
            simp only [Act.put, List.setIfInBounds_toArray, List.set_cons_zero, List.set_cons_succ]
            refine' wpAnyH_take (i := 2) (oi := ⟨some 50, _, _, _, _, _⟩) (v := ?v3ft) rfl (by kernel_rfl) (by kernel_rfl) (by kernel_rfl) (fun _ _ _ h => h) (Or.inl ⟨by rfl, ?hy3ft⟩) hHeld ?rest3ft
            case hy3ft => (intro W hSw; go_simp; first | done | with_reducible rfl)
            simp only [Act.put, List.setIfInBounds_toArray, List.set_cons_zero, List.set_cons_succ]
            refine' wpAnyH_take (i := 3) (oi := ⟨some 51, _, _, _, _, _⟩) (v := ?v4ft) rfl (by kernel_rfl) (by kernel_rfl) (by kernel_rfl) (fun _ _ _ h => h) (Or.inl ⟨by rfl, ?hy4ft⟩) hHeld ?rest4ft
            case hy4ft => (intro W hSw; go_simp; first | done | with_reducible rfl)
            simp only [Act.put, List.setIfInBounds_toArray, List.set_cons_zero, List.set_cons_succ]
            refine' wpAnyH_take (i := 5) (oi := ⟨some 53, _, _, _, _, _⟩) (v := ?v5ft) rfl (by kernel_rfl) (by kernel_rfl) (by kernel_rfl) (fun _ _ _ h => h) (Or.inl ⟨by rfl, ?hy5ft⟩) hHeld ?rest5ft
            case hy5ft => (intro W hSw; go_simp; first | done | with_reducible rfl)
            simp only [Act.put, List.setIfInBounds_toArray, List.set_cons_zero, List.set_cons_succ]
            refine' wpAnyH_take (i := 6) (oi := ⟨some 54, _, _, _, _, _⟩) (v := ?v6ft) rfl (by kernel_rfl) (by kernel_rfl) (by kernel_rfl) (fun _ _ _ h => h) (Or.inl ⟨by rfl, ?hy6ft⟩) hHeld ?rest6ft
            case hy6ft => (intro W hSw; go_simp; first | done | with_reducible rfl)
            simp only [Act.put, List.setIfInBounds_toArray, List.set_cons_zero, List.set_cons_succ]
            refine' wpAnyH_take (i := 7) (oi := ⟨some 55, _, _, _, _, _⟩) (v := ?v7ft) rfl (by kernel_rfl) (by kernel_rfl) (by kernel_rfl) (fun _ _ _ h => h) (Or.inl ⟨by rfl, ?hy7ft⟩) hHeld ?rest7ft
            case hy7ft => (intro W hSw; go_simp; first | done | with_reducible rfl)
            simp only [Act.put, List.setIfInBounds_toArray, List.set_cons_zero, List.set_cons_succ]
            refine' wpAnyH_take (i := 8) (oi := ⟨some 56, _, _, _, _, _⟩) (v := ?v8ft) rfl (by kernel_rfl) (by kernel_rfl) (by kernel_rfl) (fun _ _ _ h => h) (Or.inl ⟨by rfl, ?hy8ft⟩) hHeld ?rest8ft
            case hy8ft => (intro W hSw; go_simp; first | done | with_reducible rfl)
            simp only [Act.put, List.setIfInBounds_toArray, List.set_cons_zero, List.set_cons_succ]
            refine' wpAnyH_take (i := 9) (oi := ⟨some 57, _, _, _, _, _⟩) (v := ?v9ft) rfl (by kernel_rfl) (by kernel_rfl) (by kernel_rfl) (fun _ _ _ h => h) (Or.inl ⟨by rfl, ?hy9ft⟩) hHeld ?rest9ft
            case hy9ft => (intro W hSw; go_simp; first | done | with_reducible rfl)
            simp only [Act.put, List.setIfInBounds_toArray, List.set_cons_zero, List.set_cons_succ]
            refine wpAnyH_ready (rs := [4, 10]) (by kernel_rfl) (by simp) ?_
            refine AllReadyH.cons (o := ⟨some 52, _, _, _, _, _⟩) rfl (fun K hK => ?_) (AllReadyH.cons (o := ⟨some 58, _, _, _, _, _⟩) rfl (fun K hK => ?_) AllReadyH.nil)
            · go_simp
              refine hK.out _ _ hHeld (fun hHeld => ?_)
              clear hK K
              try simp only [Act.put, List.setIfInBounds_toArray, List.set_cons_zero, List.set_cons_succ]
              refine wpAnyH_ready (rs := [10]) (by kernel_rfl) (by simp) ?_
              refine AllReadyH.cons (o := ⟨some 58, _, _, _, _, _⟩) rfl (fun K hK => ?_) AllReadyH.nil
              go_simp
              refine hK.out _ _ y2 (fun hHeld => ?_)
              clear hK K
              try simp only [Act.put, List.setIfInBounds_toArray, List.set_cons_zero, List.set_cons_succ]
              refine' wpAnyH_take (i := 11) (oi := ⟨some 59, _, _, _, _, _⟩) (v := ?v10ft) rfl (by kernel_rfl) (by kernel_rfl) (by kernel_rfl) (fun _ _ _ h => h) (Or.inl ⟨by rfl, ?hy10ft⟩) hHeld ?rest10ft
              case hy10ft => (intro W hSw; go_simp; first | done | with_reducible rfl)
              simp only [Act.put, List.setIfInBounds_toArray, List.set_cons_zero, List.set_cons_succ]
              refine wpAnyH_ready (rs := [12]) (by kernel_rfl) (by simp) ?_
              refine AllReadyH.cons (o := ⟨some 60, _, _, _, _, _⟩) rfl (fun K hK => ?_) AllReadyH.nil
              go_simp
              refine hK.out _ _ y3 (fun hHeld => ?_)
              clear hK K
              try simp only [Act.put, List.setIfInBounds_toArray, List.set_cons_zero, List.set_cons_succ]
              refine wpAnyH_ready (rs := [13]) (by kernel_rfl) (by simp) ?_
              refine AllReadyH.cons (o := ⟨some 61, _, _, _, _, _⟩) rfl (fun K hK => ?_) AllReadyH.nil
              refine step_append_lies _ (by rfl) _ _ _ (by rfl) lo 131 i0 _ 20 200 Try.underlying103 hi hz0 hz1 hz2 rfl (by decide) (.slice d.A s.tail d.cap) s.tail (rowF (cellOf d s) s.tail) (by rfl) HM3.out.cells ⟨w1.heap.size + 1, 0, none⟩ 1 1 (newCell w1.heap.size s.cfg.sh) (by rfl) (by rfl) (World.news_of_block (cs := #[.bool false, .bool false, .int .i64 0, .int .i64 0, .int .i64 0, .int .i64 0, .int .i64 0, .int .i64 0, .int .i64 0, .int .i64 0, .int .i64 0, .int .i64 0, .int .i64 0, .slice none 0 0, .int .i64 0, .bool false, .slice (some ⟨w1.heap.size, 0, none⟩) s.cfg.sh s.cfg.sh, .int .i64 0, .int .i64 0, .slice none 0 0]) (t := 131) (fr := (0, 0)) HN3.out) (by simp [newCell, Value.oneCell']) (by decide) (by simp only [maxLen]; omega) (by omega) HLO3.out _ rfl ?_
              intro g cap w7 hown hgr hat hlt7
              obtain ⟨_, hD7, hm7, ho7⟩ := HM3.out.grown HX3.out HLOX.out HFR.out hown hgr
              have y7 : w7.cell? ⟨D, 0, none⟩ = some (.int .i64 s.cfg.sh) := cell_of_blk (cs := docCells d s) hD7 0
              have c7' : w7.cell? ⟨D, 7, none⟩ = some (.slice d.A s.tail d.cap) := cell_of_blk (cs := docCells d s) hD7 7
              have f7' : w7.frozen? ⟨D, 7, none⟩ = false := free_of_blk (cs := docCells d s) hD7 7
              have y8 : (w7.setCell ⟨D, 7, none⟩ (.slice (some ⟨g, 0, none⟩) (s.tail + 1) cap)).cell? ⟨D, 0, none⟩ = some (.int .i64 s.cfg.sh) := cell_of_blk hm7.hD 0
              have c8 : (w7.setCell ⟨D, 7, none⟩ (.slice (some ⟨g, 0, none⟩) (s.tail + 1) cap)).cell? ⟨D, 8, none⟩ = some (.bool s.closed) := cell_of_blk hm7.hD 8
              have f8 : (w7.setCell ⟨D, 7, none⟩ (.slice (some ⟨g, 0, none⟩) (s.tail + 1) cap)).frozen? ⟨D, 8, none⟩ = false := free_of_blk hm7.hD 8
              have HM8 := Lib.hid (hm7.headset 8 (.bool true))
              have HO8 := Lib.hid (only_dock (only_dock HO3.out ho7) (((Only.refl (DocK lo w7) w7).setCell ⟨D, 7, none⟩ (.slice (some ⟨g, 0, none⟩) (s.tail + 1) cap) (.inl ⟨HM3.out.lo.1, _, _, _, hD7, .inl rfl⟩)).setCell ⟨D, 8, none⟩ (.bool true) (.inl ⟨HM3.out.lo.1, _, _, _, hD7, .inl rfl⟩)))
              rw [HCL.out] at c8
              clear hown hgr hat hlt7 hD7 hm7 ho7
              refine hK.out _ _ y7 (fun hHeld => ?_)
              clear hK K
              try simp only [Act.put, List.setIfInBounds_toArray, List.set_cons_zero, List.set_cons_succ]
              refine' wpAnyH_take (i := 14) (oi := ⟨some 62, _, _, _, _, _⟩) (v := ?v11ft) rfl (by kernel_rfl) (by kernel_rfl) (by kernel_rfl) (fun _ _ _ h => h) (Or.inl ⟨by rfl, ?hy11ft⟩) hHeld ?rest11ft
              case hy11ft => (intro W hSw; go_simp; first | done | with_reducible rfl)
              simp only [Act.put, List.setIfInBounds_toArray, List.set_cons_zero, List.set_cons_succ]
              refine' wpAnyH_take (i := 15) (oi := ⟨some 63, _, _, _, _, _⟩) (v := ?v12ft) rfl (by kernel_rfl) (by kernel_rfl) (by kernel_rfl) (fun _ _ _ h => h) (Or.inl ⟨by rfl, ?hy12ft⟩) hHeld ?rest12ft
              case hy12ft => (intro W hSw; go_simp; first | done | with_reducible rfl)
              simp only [Act.put, List.setIfInBounds_toArray, List.set_cons_zero, List.set_cons_succ]
              refine wpAnyH_ready (rs := [16]) (by kernel_rfl) (by simp) ?_
              refine AllReadyH.cons (o := ⟨none, _, _, _, _, _⟩) rfl (fun K hK => ?_) AllReadyH.nil
              go_simp
              refine hK.out _ _ y8 (fun hHeld => ?_)
              clear hK K
              try simp only [Act.put, List.setIfInBounds_toArray, List.set_cons_zero, List.set_cons_succ]
              refine wpAnyH_done (by kernel_rfl) ?_ _
              go_wp2_with fail
              go_ret
              exact ⟨rfl, ⟨_, HH.out.taken false H1.out H2.out hsm HO8.out (by rw [HCL.out]; exact HM8.out)⟩, HO8.out⟩
            · go_simp
              refine hK.out _ _ y2 (fun hHeld => ?_)
              clear hK K
              try simp only [Act.put, List.setIfInBounds_toArray, List.set_cons_zero, List.set_cons_succ]
              refine' wpAnyH_take (i := 11) (oi := ⟨some 59, _, _, _, _, _⟩) (v := ?v13ft) rfl (by kernel_rfl) (by kernel_rfl) (by kernel_rfl) (fun _ _ _ h => h) (Or.inl ⟨by rfl, ?hy13ft⟩) hHeld ?rest13ft
              case hy13ft => (intro W hSw; go_simp; first | done | with_reducible rfl)
              simp only [Act.put, List.setIfInBounds_toArray, List.set_cons_zero, List.set_cons_succ]
              refine wpAnyH_ready (rs := [4, 12]) (by kernel_rfl) (by simp) ?_
              refine AllReadyH.cons (o := ⟨some 52, _, _, _, _, _⟩) rfl (fun K hK => ?_) (AllReadyH.cons (o := ⟨some 60, _, _, _, _, _⟩) rfl (fun K hK => ?_) AllReadyH.nil)
              · go_simp
                refine hK.out _ _ hHeld (fun hHeld => ?_)
                clear hK K
                try simp only [Act.put, List.setIfInBounds_toArray, List.set_cons_zero, List.set_cons_succ]
                refine wpAnyH_ready (rs := [12]) (by kernel_rfl) (by simp) ?_
                refine AllReadyH.cons (o := ⟨some 60, _, _, _, _, _⟩) rfl (fun K hK => ?_) AllReadyH.nil
                go_simp
                refine hK.out _ _ y3 (fun hHeld => ?_)
                clear hK K
                try simp only [Act.put, List.setIfInBounds_toArray, List.set_cons_zero, List.set_cons_succ]
                refine wpAnyH_ready (rs := [13]) (by kernel_rfl) (by simp) ?_
                refine AllReadyH.cons (o := ⟨some 61, _, _, _, _, _⟩) rfl (fun K hK => ?_) AllReadyH.nil
                refine step_append_lies _ (by rfl) _ _ _ (by rfl) lo 131 i0 _ 20 200 Try.underlying103 hi hz0 hz1 hz2 rfl (by decide) (.slice d.A s.tail d.cap) s.tail (rowF (cellOf d s) s.tail) (by rfl) HM3.out.cells ⟨w1.heap.size + 1, 0, none⟩ 1 1 (newCell w1.heap.size s.cfg.sh) (by rfl) (by rfl) (World.news_of_block (cs := #[.bool false, .bool false, .int .i64 0, .int .i64 0, .int .i64 0, .int .i64 0, .int .i64 0, .int .i64 0, .int .i64 0, .int .i64 0, .int .i64 0, .int .i64 0, .int .i64 0, .slice none 0 0, .int .i64 0, .bool false, .slice (some ⟨w1.heap.size, 0, none⟩) s.cfg.sh s.cfg.sh, .int .i64 0, .int .i64 0, .slice none 0 0]) (t := 131) (fr := (0, 0)) HN3.out) (by simp [newCell, Value.oneCell']) (by decide) (by simp only [maxLen]; omega) (by omega) HLO3.out _ rfl ?_
                intro g cap w7 hown hgr hat hlt7
                obtain ⟨_, hD7, hm7, ho7⟩ := HM3.out.grown HX3.out HLOX.out HFR.out hown hgr
                have y7 : w7.cell? ⟨D, 0, none⟩ = some (.int .i64 s.cfg.sh) := cell_of_blk (cs := docCells d s) hD7 0
                have c7' : w7.cell? ⟨D, 7, none⟩ = some (.slice d.A s.tail d.cap) := cell_of_blk (cs := docCells d s) hD7 7
                have f7' : w7.frozen? ⟨D, 7, none⟩ = false := free_of_blk (cs := docCells d s) hD7 7
                have y8 : (w7.setCell ⟨D, 7, none⟩ (.slice (some ⟨g, 0, none⟩) (s.tail + 1) cap)).cell? ⟨D, 0, none⟩ = some (.int .i64 s.cfg.sh) := cell_of_blk hm7.hD 0
                have c8 : (w7.setCell ⟨D, 7, none⟩ (.slice (some ⟨g, 0, none⟩) (s.tail + 1) cap)).cell? ⟨D, 8, none⟩ = some (.bool s.closed) := cell_of_blk hm7.hD 8
                have f8 : (w7.setCell ⟨D, 7, none⟩ (.slice (some ⟨g, 0, none⟩) (s.tail + 1) cap)).frozen? ⟨D, 8, none⟩ = false := free_of_blk hm7.hD 8
                have HM8 := Lib.hid (hm7.headset 8 (.bool true))
                have HO8 := Lib.hid (only_dock (only_dock HO3.out ho7) (((Only.refl (DocK lo w7) w7).setCell ⟨D, 7, none⟩ (.slice (some ⟨g, 0, none⟩) (s.tail + 1) cap) (.inl ⟨HM3.out.lo.1, _, _, _, hD7, .inl rfl⟩)).setCell ⟨D, 8, none⟩ (.bool true) (.inl ⟨HM3.out.lo.1, _, _, _, hD7, .inl rfl⟩)))
                rw [HCL.out] at c8
                clear hown hgr hat hlt7 hD7 hm7 ho7
                refine hK.out _ _ y7 (fun hHeld => ?_)
                clear hK K
                try simp only [Act.put, List.setIfInBounds_toArray, List.set_cons_zero, List.set_cons_succ]
                refine' wpAnyH_take (i := 14) (oi := ⟨some 62, _, _, _, _, _⟩) (v := ?v14ft) rfl (by kernel_rfl) (by kernel_rfl) (by kernel_rfl) (fun _ _ _ h => h) (Or.inl ⟨by rfl, ?hy14ft⟩) hHeld ?rest14ft
                case hy14ft => (intro W hSw; go_simp; first | done | with_reducible rfl)
                simp only [Act.put, List.setIfInBounds_toArray, List.set_cons_zero, List.set_cons_succ]
                refine' wpAnyH_take (i := 15) (oi := ⟨some 63, _, _, _, _, _⟩) (v := ?v15ft) rfl (by kernel_rfl) (by kernel_rfl) (by kernel_rfl) (fun _ _ _ h => h) (Or.inl ⟨by rfl, ?hy15ft⟩) hHeld ?rest15ft
                case hy15ft => (intro W hSw; go_simp; first | done | with_reducible rfl)
                simp only [Act.put, List.setIfInBounds_toArray, List.set_cons_zero, List.set_cons_succ]
                refine wpAnyH_ready (rs := [16]) (by kernel_rfl) (by simp) ?_
                refine AllReadyH.cons (o := ⟨none, _, _, _, _, _⟩) rfl (fun K hK => ?_) AllReadyH.nil
                go_simp
                refine hK.out _ _ y8 (fun hHeld => ?_)
                clear hK K
                try simp only [Act.put, List.setIfInBounds_toArray, List.set_cons_zero, List.set_cons_succ]
                refine wpAnyH_done (by kernel_rfl) ?_ _
                go_wp2_with fail
                go_ret
                exact ⟨rfl, ⟨_, HH.out.taken false H1.out H2.out hsm HO8.out (by rw [HCL.out]; exact HM8.out)⟩, HO8.out⟩
              · go_simp
                refine hK.out _ _ y3 (fun hHeld => ?_)
                clear hK K
                try simp only [Act.put, List.setIfInBounds_toArray, List.set_cons_zero, List.set_cons_succ]
                refine wpAnyH_ready (rs := [4]) (by kernel_rfl) (by simp) ?_
                refine AllReadyH.cons (o := ⟨some 52, _, _, _, _, _⟩) rfl (fun K hK => ?_) AllReadyH.nil
                go_simp
                refine hK.out _ _ hHeld (fun hHeld => ?_)
                clear hK K
                try simp only [Act.put, List.setIfInBounds_toArray, List.set_cons_zero, List.set_cons_succ]
                refine wpAnyH_ready (rs := [13]) (by kernel_rfl) (by simp) ?_
                refine AllReadyH.cons (o := ⟨some 61, _, _, _, _, _⟩) rfl (fun K hK => ?_) AllReadyH.nil
                refine step_append_lies _ (by rfl) _ _ _ (by rfl) lo 131 i0 _ 20 200 Try.underlying103 hi hz0 hz1 hz2 rfl (by decide) (.slice d.A s.tail d.cap) s.tail (rowF (cellOf d s) s.tail) (by rfl) HM3.out.cells ⟨w1.heap.size + 1, 0, none⟩ 1 1 (newCell w1.heap.size s.cfg.sh) (by rfl) (by rfl) (World.news_of_block (cs := #[.bool false, .bool false, .int .i64 0, .int .i64 0, .int .i64 0, .int .i64 0, .int .i64 0, .int .i64 0, .int .i64 0, .int .i64 0, .int .i64 0, .int .i64 0, .int .i64 0, .slice none 0 0, .int .i64 0, .bool false, .slice (some ⟨w1.heap.size, 0, none⟩) s.cfg.sh s.cfg.sh, .int .i64 0, .int .i64 0, .slice none 0 0]) (t := 131) (fr := (0, 0)) HN3.out) (by simp [newCell, Value.oneCell']) (by decide) (by simp only [maxLen]; omega) (by omega) HLO3.out _ rfl ?_
                intro g cap w7 hown hgr hat hlt7
                obtain ⟨_, hD7, hm7, ho7⟩ := HM3.out.grown HX3.out HLOX.out HFR.out hown hgr
                have y7 : w7.cell? ⟨D, 0, none⟩ = some (.int .i64 s.cfg.sh) := cell_of_blk (cs := docCells d s) hD7 0
                have c7' : w7.cell? ⟨D, 7, none⟩ = some (.slice d.A s.tail d.cap) := cell_of_blk (cs := docCells d s) hD7 7
                have f7' : w7.frozen? ⟨D, 7, none⟩ = false := free_of_blk (cs := docCells d s) hD7 7
                have y8 : (w7.setCell ⟨D, 7, none⟩ (.slice (some ⟨g, 0, none⟩) (s.tail + 1) cap)).cell? ⟨D, 0, none⟩ = some (.int .i64 s.cfg.sh) := cell_of_blk hm7.hD 0
                have c8 : (w7.setCell ⟨D, 7, none⟩ (.slice (some ⟨g, 0, none⟩) (s.tail + 1) cap)).cell? ⟨D, 8, none⟩ = some (.bool s.closed) := cell_of_blk hm7.hD 8
                have f8 : (w7.setCell ⟨D, 7, none⟩ (.slice (some ⟨g, 0, none⟩) (s.tail + 1) cap)).frozen? ⟨D, 8, none⟩ = false := free_of_blk hm7.hD 8
                have HM8 := Lib.hid (hm7.headset 8 (.bool true))
                have HO8 := Lib.hid (only_dock (only_dock HO3.out ho7) (((Only.refl (DocK lo w7) w7).setCell ⟨D, 7, none⟩ (.slice (some ⟨g, 0, none⟩) (s.tail + 1) cap) (.inl ⟨HM3.out.lo.1, _, _, _, hD7, .inl rfl⟩)).setCell ⟨D, 8, none⟩ (.bool true) (.inl ⟨HM3.out.lo.1, _, _, _, hD7, .inl rfl⟩)))
                rw [HCL.out] at c8
                clear hown hgr hat hlt7 hD7 hm7 ho7
                refine hK.out _ _ y7 (fun hHeld => ?_)
                clear hK K
                try simp only [Act.put, List.setIfInBounds_toArray, List.set_cons_zero, List.set_cons_succ]
                refine' wpAnyH_take (i := 14) (oi := ⟨some 62, _, _, _, _, _⟩) (v := ?v16ft) rfl (by kernel_rfl) (by kernel_rfl) (by kernel_rfl) (fun _ _ _ h => h) (Or.inl ⟨by rfl, ?hy16ft⟩) hHeld ?rest16ft
                case hy16ft => (intro W hSw; go_simp; first | done | with_reducible rfl)
                simp only [Act.put, List.setIfInBounds_toArray, List.set_cons_zero, List.set_cons_succ]
                refine' wpAnyH_take (i := 15) (oi := ⟨some 63, _, _, _, _, _⟩) (v := ?v17ft) rfl (by kernel_rfl) (by kernel_rfl) (by kernel_rfl) (fun _ _ _ h => h) (Or.inl ⟨by rfl, ?hy17ft⟩) hHeld ?rest17ft
                case hy17ft => (intro W hSw; go_simp; first | done | with_reducible rfl)
                simp only [Act.put, List.setIfInBounds_toArray, List.set_cons_zero, List.set_cons_succ]
                refine wpAnyH_ready (rs := [16]) (by kernel_rfl) (by simp) ?_
                refine AllReadyH.cons (o := ⟨none, _, _, _, _, _⟩) rfl (fun K hK => ?_) AllReadyH.nil
                go_simp
                refine hK.out _ _ y8 (fun hHeld => ?_)
                clear hK K
                try simp only [Act.put, List.setIfInBounds_toArray, List.set_cons_zero, List.set_cons_succ]
                refine wpAnyH_done (by kernel_rfl) ?_ _
                go_wp2_with fail
                go_ret
                exact ⟨rfl, ⟨_, HH.out.taken false H1.out H2.out hsm HO8.out (by rw [HCL.out]; exact HM8.out)⟩, HO8.out⟩
        · cases cl
          · skip
            clear hcc
            go_enter Try.func48, Try.ntmps48
            go_wp2_with fail
            go_quiet (fail)
            obtain ⟨hm0, ho0⟩ := HALL.out nq
            have yd : (w.drewN nq).drew.cell? ⟨D, 0, none⟩ = some (.int .i64 s.cfg.sh) := cell_of_blk hm0.hD 0
            have HM1 := Lib.hid hm0
            have HO1 := Lib.hid ho0
            have hmk := HMK.out
            clear hm0 ho0 c7 c6 c1 c8 c9 HALL STAY
            generalize w.drewN nq = w0 at *
            go_wp2_with fail
            refine wp_region_held_drew (S := fun w' => w'.cell? ⟨D, 0, none⟩ = some (.int .i64 s.cfg.sh)) (by kernel_rfl) yd (fun hHeld => ?_)
            generalize w0.drew = w1 at *
            have c7 : w1.cell? ⟨D, 7, none⟩ = some (.slice d.A s.tail d.cap) := cell_of_blk HM1.out.hD 7
            have hm2 : RefM (w1.alloc (.cells (rowF (outOf zOut) s.cfg.sh).toArray 47 (0, 0))) lo D (docM d s) := HM1.out.below (bl_alloc (Below.refl _ _) _)
            have y2 : (w1.alloc (.cells (rowF (outOf zOut) s.cfg.sh).toArray 47 (0, 0))).cell? ⟨D, 0, none⟩ = some (.int .i64 s.cfg.sh) := cell_of_blk hm2.hD 0
            have c72 : (w1.alloc (.cells (rowF (outOf zOut) s.cfg.sh).toArray 47 (0, 0))).cell? ⟨D, 7, none⟩ = some (.slice d.A s.tail d.cap) := cell_of_blk hm2.hD 7
            have hx2 : (w1.alloc (.cells (rowF (outOf zOut) s.cfg.sh).toArray 47 (0, 0))).heap[w1.heap.size]? = some (.cells (rowF (outOf zOut) s.cfg.sh).toArray 47 (0, 0)) := alloc_new _ _
            have hm3 : RefM ((w1.alloc (.cells (rowF (outOf zOut) s.cfg.sh).toArray 47 (0, 0))).alloc (.cells #[.bool false, .bool false, .int .i64 0, .int .i64 0, .int .i64 0, .int .i64 0, .int .i64 0, .int .i64 0, .int .i64 0, .int .i64 0, .int .i64 0, .int .i64 0, .int .i64 0, .slice none 0 0, .int .i64 0, .bool false, .slice (some ⟨w1.heap.size, 0, none⟩) s.cfg.sh s.cfg.sh, .int .i64 0, .int .i64 0, .slice none 0 0] 131)) lo D (docM d s) := hm2.below (bl_alloc (Below.refl _ _) _)
            have y3 : ((w1.alloc (.cells (rowF (outOf zOut) s.cfg.sh).toArray 47 (0, 0))).alloc (.cells #[.bool false, .bool false, .int .i64 0, .int .i64 0, .int .i64 0, .int .i64 0, .int .i64 0, .int .i64 0, .int .i64 0, .int .i64 0, .int .i64 0, .int .i64 0, .int .i64 0, .slice none 0 0, .int .i64 0, .bool false, .slice (some ⟨w1.heap.size, 0, none⟩) s.cfg.sh s.cfg.sh, .int .i64 0, .int .i64 0, .slice none 0 0] 131)).cell? ⟨D, 0, none⟩ = some (.int .i64 s.cfg.sh) := cell_of_blk hm3.hD 0
            have c73 : ((w1.alloc (.cells (rowF (outOf zOut) s.cfg.sh).toArray 47 (0, 0))).alloc (.cells #[.bool false, .bool false, .int .i64 0, .int .i64 0, .int .i64 0, .int .i64 0, .int .i64 0, .int .i64 0, .int .i64 0, .int .i64 0, .int .i64 0, .int .i64 0, .int .i64 0, .slice none 0 0, .int .i64 0, .bool false, .slice (some ⟨w1.heap.size, 0, none⟩) s.cfg.sh s.cfg.sh, .int .i64 0, .int .i64 0, .slice none 0 0] 131)).cell? ⟨D, 7, none⟩ = some (.slice d.A s.tail d.cap) := cell_of_blk hm3.hD 7
            have HX3 : Hid (((w1.alloc (.cells (rowF (outOf zOut) s.cfg.sh).toArray 47 (0, 0))).alloc (.cells #[.bool false, .bool false, .int .i64 0, .int .i64 0, .int .i64 0, .int .i64 0, .int .i64 0, .int .i64 0, .int .i64 0, .int .i64 0, .int .i64 0, .int .i64 0, .int .i64 0, .slice none 0 0, .int .i64 0, .bool false, .slice (some ⟨w1.heap.size, 0, none⟩) s.cfg.sh s.cfg.sh, .int .i64 0, .int .i64 0, .slice none 0 0] 131)).heap[w1.heap.size]? = some (.cells (rowF (outOf zOut) s.cfg.sh).toArray 47 (0, 0))) := Lib.hid (alloc_old hx2 _)
            have HN3 : Hid (((w1.alloc (.cells (rowF (outOf zOut) s.cfg.sh).toArray 47 (0, 0))).alloc (.cells #[.bool false, .bool false, .int .i64 0, .int .i64 0, .int .i64 0, .int .i64 0, .int .i64 0, .int .i64 0, .int .i64 0, .int .i64 0, .int .i64 0, .int .i64 0, .int .i64 0, .slice none 0 0, .int .i64 0, .bool false, .slice (some ⟨w1.heap.size, 0, none⟩) s.cfg.sh s.cfg.sh, .int .i64 0, .int .i64 0, .slice none 0 0] 131)).heap[w1.heap.size + 1]? = some (.cells #[.bool false, .bool false, .int .i64 0, .int .i64 0, .int .i64 0, .int .i64 0, .int .i64 0, .int .i64 0, .int .i64 0, .int .i64 0, .int .i64 0, .int .i64 0, .int .i64 0, .slice none 0 0, .int .i64 0, .bool false, .slice (some ⟨w1.heap.size, 0, none⟩) s.cfg.sh s.cfg.sh, .int .i64 0, .int .i64 0, .slice none 0 0] 131 (0, 0))) := Lib.hid (alloc_at (by simp) _)
            have HM3 := Lib.hid hm3
            have HO3 : Hid (Only (DocK lo w) w ((w1.alloc (.cells (rowF (outOf zOut) s.cfg.sh).toArray 47 (0, 0))).alloc (.cells #[.bool false, .bool false, .int .i64 0, .int .i64 0, .int .i64 0, .int .i64 0, .int .i64 0, .int .i64 0, .int .i64 0, .int .i64 0, .int .i64 0, .int .i64 0, .int .i64 0, .slice none 0 0, .int .i64 0, .bool false, .slice (some ⟨w1.heap.size, 0, none⟩) s.cfg.sh s.cfg.sh, .int .i64 0, .int .i64 0, .slice none 0 0] 131))) := Lib.hid ((HO1.out.alloc _).alloc _)
            have HLOX : Hid (lo ≤ w1.heap.size) := Lib.hid (by have := block_lt HM1.out.hD; have := HM1.out.lo.1; omega)
            have HLO3 : Hid (lo ≤ ((w1.alloc (.cells (rowF (outOf zOut) s.cfg.sh).toArray 47 (0, 0))).alloc (.cells #[.bool false, .bool false, .int .i64 0, .int .i64 0, .int .i64 0, .int .i64 0, .int .i64 0, .int .i64 0, .int .i64 0, .int .i64 0, .int .i64 0, .int .i64 0, .int .i64 0, .slice none 0 0, .int .i64 0, .bool false, .slice (some ⟨w1.heap.size, 0, none⟩) s.cfg.sh s.cfg.sh, .int .i64 0, .int .i64 0, .slice none 0 0] 131)).heap.size) := Lib.hid (by have := HLOX.out; simp only [World.size_alloc]; omega)
            have HFR : Hid (∀ p, p < s.tail → d.ob p ≠ w1.heap.size) := Lib.hid fun p hp => by have := block_lt (HM1.out.outs p hp); change d.ob p < _ at this; omega
            clear hm2 hx2 hm3
            refine' wpAnyH_take (i := 0) (oi := ⟨some 48, _, _, _, _, _⟩) (v := ?v1tf) rfl (by kernel_rfl) (by kernel_rfl) (by kernel_rfl) (fun _ _ _ h => h) (Or.inl ⟨by rfl, ?hy1tf⟩) hHeld ?rest1tf
            case hy1tf => (intro W hSw; go_simp; first | done | with_reducible rfl)
            simp only [Act.put, List.setIfInBounds_toArray, List.set_cons_zero, List.set_cons_succ]
            refine' wpAnyH_take (i := 1) (oi := ⟨some 49, _, _, _, _, _⟩) (v := ?v2tf) rfl (by kernel_rfl) (by kernel_rfl) (by kernel_rfl) (fun _ _ _ h => h) (Or.inl ⟨by rfl, ?hy2tf⟩) hHeld ?rest2tf
            case hy2tf => (intro W hSw; go_simp; first | done | with_reducible rfl)
            simp only [Act.put, List.setIfInBounds_toArray, List.set_cons_zero, List.set_cons_succ]
            refine' wpAnyH_take (i := 2) (oi := ⟨some 50, _, _, _, _, _⟩) (v := ?v3tf) rfl (by kernel_rfl) (by kernel_rfl) (by kernel_rfl) (fun _ _ _ h => h) (Or.inl ⟨by rfl, ?hy3tf⟩) hHeld ?rest3tf
            case hy3tf => (intro W hSw; go_simp; first | done | with_reducible rfl)
            simp only [Act.put, List.setIfInBounds_toArray, List.set_cons_zero, List.set_cons_succ]
            refine' wpAnyH_take (i := 3) (oi := ⟨some 51, _, _, _, _, _⟩) (v := ?v4tf) rfl (by kernel_rfl) (by kernel_rfl) (by kernel_rfl) (fun _ _ _ h => h) (Or.inl ⟨by rfl, ?hy4tf⟩) hHeld ?rest4tf
            case hy4tf => (intro W hSw; go_simp; first | done | with_reducible rfl)
            simp only [Act.put, List.setIfInBounds_toArray, List.set_cons_zero, List.set_cons_succ]
            refine' wpAnyH_take (i := 5) (oi := ⟨some 53, _, _, _, _, _⟩) (v := ?v5tf) rfl (by kernel_rfl) (by kernel_rfl) (by kernel_rfl) (fun _ _ _ h => h) (Or.inl ⟨by rfl, ?hy5tf⟩) hHeld ?rest5tf
            case hy5tf => (intro W hSw; go_simp; first | done | with_reducible rfl)
            simp only [Act.put, List.setIfInBounds_toArray, List.set_cons_zero, List.set_cons_succ]
            refine' wpAnyH_take (i := 6) (oi := ⟨some 54, _, _, _, _, _⟩) (v := ?v6tf) rfl (by kernel_rfl) (by kernel_rfl) (by kernel_rfl) (fun _ _ _ h => h) (Or.inl ⟨by rfl, ?hy6tf⟩) hHeld ?rest6tf
            case hy6tf => (intro W hSw; go_simp; first | done | with_reducible rfl)
            simp only [Act.put, List.setIfInBounds_toArray, List.set_cons_zero, List.set_cons_succ]
            refine' wpAnyH_take (i := 7) (oi := ⟨some 55, _, _, _, _, _⟩) (v := ?v7tf) rfl (by kernel_rfl) (by kernel_rfl) (by kernel_rfl) (fun _ _ _ h => h) (Or.inl ⟨by rfl, ?hy7tf⟩) hHeld ?rest7tf
            case hy7tf => (intro W hSw; go_simp; first | done | with_reducible rfl)
            simp only [Act.put, List.setIfInBounds_toArray, List.set_cons_zero, List.set_cons_succ]
            refine' wpAnyH_take (i := 8) (oi := ⟨some 56, _, _, _, _, _⟩) (v := ?v8tf) rfl (by kernel_rfl) (by kernel_rfl) (by kernel_rfl) (fun _ _ _ h => h) (Or.inl ⟨by rfl, ?hy8tf⟩) hHeld ?rest8tf
            case hy8tf => (intro W hSw; go_simp; first | done | with_reducible rfl)
            simp only [Act.put, List.setIfInBounds_toArray, List.set_cons_zero, List.set_cons_succ]
            refine' wpAnyH_take (i := 9) (oi := ⟨some 57, _, _, _, _, _⟩) (v := ?v9tf) rfl (by kernel_rfl) (by kernel_rfl) (by kernel_rfl) (fun _ _ _ h => h) (Or.inl ⟨by rfl, ?hy9tf⟩) hHeld ?rest9tf
            case hy9tf => (intro W hSw; go_simp; first | done | with_reducible rfl)
            simp only [Act.put, List.setIfInBounds_toArray, List.set_cons_zero, List.set_cons_succ]
            refine wpAnyH_ready (rs := [4, 10]) (by kernel_rfl) (by simp) ?_
            refine AllReadyH.cons (o := ⟨some 52, _, _, _, _, _⟩) rfl (fun K hK => ?_) (AllReadyH.cons (o := ⟨some 58, _, _, _, _, _⟩) rfl (fun K hK => ?_) AllReadyH.nil)
            · go_simp
              refine hK.out _ _ hHeld (fun hHeld => ?_)
              clear hK K
              try simp only [Act.put, List.setIfInBounds_toArray, List.set_cons_zero, List.set_cons_succ]
              refine wpAnyH_ready (rs := [10]) (by kernel_rfl) (by simp) ?_
              refine AllReadyH.cons (o := ⟨some 58, _, _, _, _, _⟩) rfl (fun K hK => ?_) AllReadyH.nil
              go_simp
              refine hK.out _ _ y2 (fun hHeld => ?_)
              clear hK K
              try simp only [Act.put, List.setIfInBounds_toArray, List.set_cons_zero, List.set_cons_succ]
              refine' wpAnyH_take (i := 11) (oi := ⟨some 59, _, _, _, _, _⟩) (v := ?v10tf) rfl (by kernel_rfl) (by kernel_rfl) (by kernel_rfl) (fun _ _ _ h => h) (Or.inl ⟨by rfl, ?hy10tf⟩) hHeld ?rest10tf
              case hy10tf => (intro W hSw; go_simp; first | done | with_reducible rfl)
              simp only [Act.put, List.setIfInBounds_toArray, List.set_cons_zero, List.set_cons_succ]
              refine wpAnyH_ready (rs := [12]) (by kernel_rfl) (by simp) ?_
              refine AllReadyH.cons (o := ⟨some 60, _, _, _, _, _⟩) rfl (fun K hK => ?_) AllReadyH.nil
              go_simp
              refine hK.out _ _ y3 (fun hHeld => ?_)
              clear hK K
              try simp only [Act.put, List.setIfInBounds_toArray, List.set_cons_zero, List.set_cons_succ]
              refine wpAnyH_ready (rs := [13]) (by kernel_rfl) (by simp) ?_
              refine AllReadyH.cons (o := ⟨some 61, _, _, _, _, _⟩) rfl (fun K hK => ?_) AllReadyH.nil
              refine step_append_lies _ (by rfl) _ _ _ (by rfl) lo 131 i0 _ 20 200 Try.underlying103 hi hz0 hz1 hz2 rfl (by decide) (.slice d.A s.tail d.cap) s.tail (rowF (cellOf d s) s.tail) (by rfl) HM3.out.cells ⟨w1.heap.size + 1, 0, none⟩ 1 1 (newCell w1.heap.size s.cfg.sh) (by rfl) (by rfl) (World.news_of_block (cs := #[.bool false, .bool false, .int .i64 0, .int .i64 0, .int .i64 0, .int .i64 0, .int .i64 0, .int .i64 0, .int .i64 0, .int .i64 0, .int .i64 0, .int .i64 0, .int .i64 0, .slice none 0 0, .int .i64 0, .bool false, .slice (some ⟨w1.heap.size, 0, none⟩) s.cfg.sh s.cfg.sh, .int .i64 0, .int .i64 0, .slice none 0 0]) (t := 131) (fr := (0, 0)) HN3.out) (by simp [newCell, Value.oneCell']) (by decide) (by simp only [maxLen]; omega) (by omega) HLO3.out _ rfl ?_
              intro g cap w7 hown hgr hat hlt7
              obtain ⟨_, hD7, hm7, ho7⟩ := HM3.out.grown HX3.out HLOX.out HFR.out hown hgr
              have y7 : w7.cell? ⟨D, 0, none⟩ = some (.int .i64 s.cfg.sh) := cell_of_blk (cs := docCells d s) hD7 0
              have c7' : w7.cell? ⟨D, 7, none⟩ = some (.slice d.A s.tail d.cap) := cell_of_blk (cs := docCells d s) hD7 7
              have f7' : w7.frozen? ⟨D, 7, none⟩ = false := free_of_blk (cs := docCells d s) hD7 7
              have y8 : (w7.setCell ⟨D, 7, none⟩ (.slice (some ⟨g, 0, none⟩) (s.tail + 1) cap)).cell? ⟨D, 0, none⟩ = some (.int .i64 s.cfg.sh) := cell_of_blk hm7.hD 0
              have c8 : (w7.setCell ⟨D, 7, none⟩ (.slice (some ⟨g, 0, none⟩) (s.tail + 1) cap)).cell? ⟨D, 8, none⟩ = some (.bool s.closed) := cell_of_blk hm7.hD 8
              have f8 : (w7.setCell ⟨D, 7, none⟩ (.slice (some ⟨g, 0, none⟩) (s.tail + 1) cap)).frozen? ⟨D, 8, none⟩ = false := free_of_blk hm7.hD 8
              have HM8 := Lib.hid (hm7.headset 8 (.bool true))
              have HO8 := Lib.hid (only_dock (only_dock HO3.out ho7) (((Only.refl (DocK lo w7) w7).setCell ⟨D, 7, none⟩ (.slice (some ⟨g, 0, none⟩) (s.tail + 1) cap) (.inl ⟨HM3.out.lo.1, _, _, _, hD7, .inl rfl⟩)).setCell ⟨D, 8, none⟩ (.bool true) (.inl ⟨HM3.out.lo.1, _, _, _, hD7, .inl rfl⟩)))
              rw [HCL.out] at c8
              clear hown hgr hat hlt7 hD7 hm7 ho7
              refine hK.out _ _ y7 (fun hHeld => ?_)
              clear hK K
              try simp only [Act.put, List.setIfInBounds_toArray, List.set_cons_zero, List.set_cons_succ]
              refine' wpAnyH_take (i := 14) (oi := ⟨some 62, _, _, _, _, _⟩) (v := ?v11tf) rfl (by kernel_rfl) (by kernel_rfl) (by kernel_rfl) (fun _ _ _ h => h) (Or.inl ⟨by rfl, ?hy11tf⟩) hHeld ?rest11tf
              case hy11tf => (intro W hSw; go_simp; first | done | with_reducible rfl)
              simp only [Act.put, List.setIfInBounds_toArray, List.set_cons_zero, List.set_cons_succ]
              refine' wpAnyH_take (i := 15) (oi := ⟨some 63, _, _, _, _, _⟩) (v := ?v12tf) rfl (by kernel_rfl) (by kernel_rfl) (by kernel_rfl) (fun _ _ _ h => h) (Or.inl ⟨by rfl, ?hy12tf⟩) hHeld ?rest12tf
              case hy12tf => (intro W hSw; go_simp; first | done | with_reducible rfl)
              simp only [Act.put, List.setIfInBounds_toArray, List.set_cons_zero, List.set_cons_succ]
              refine wpAnyH_ready (rs := [16]) (by kernel_rfl) (by simp) ?_
              refine AllReadyH.cons (o := ⟨none, _, _, _, _, _⟩) rfl (fun K hK => ?_) AllReadyH.nil
              go_simp
              refine hK.out _ _ y8 (fun hHeld => ?_)
              clear hK K
              try simp only [Act.put, List.setIfInBounds_toArray, List.set_cons_zero, List.set_cons_succ]
              refine wpAnyH_done (by kernel_rfl) ?_ _
              go_wp2_with fail
              go_ret
              exact ⟨rfl, ⟨_, HH.out.taken true H1.out H2.out hsm HO8.out (by rw [HCL.out]; exact HM8.out)⟩, HO8.out⟩
            · go_simp
              refine hK.out _ _ y2 (fun hHeld => ?_)
              clear hK K
              try simp only [Act.put, List.setIfInBounds_toArray, List.set_cons_zero, List.set_cons_succ]
              refine' wpAnyH_take (i := 11) (oi := ⟨some 59, _, _, _, _, _⟩) (v := ?v13tf) rfl (by kernel_rfl) (by kernel_rfl) (by kernel_rfl) (fun _ _ _ h => h) (Or.inl ⟨by rfl, ?hy13tf⟩) hHeld ?rest13tf
              case hy13tf => (intro W hSw; go_simp; first | done | with_reducible rfl)
              simp only [Act.put, List.setIfInBounds_toArray, List.set_cons_zero, List.set_cons_succ]
              refine wpAnyH_ready (rs := [4, 12]) (by kernel_rfl) (by simp) ?_
              refine AllReadyH.cons (o := ⟨some 52, _, _, _, _, _⟩) rfl (fun K hK => ?_) (AllReadyH.cons (o := ⟨some 60, _, _, _, _, _⟩) rfl (fun K hK => ?_) AllReadyH.nil)
              · go_simp
                refine hK.out _ _ hHeld (fun hHeld => ?_)
                clear hK K
                try simp only [Act.put, List.setIfInBounds_toArray, List.set_cons_zero, List.set_cons_succ]
                refine wpAnyH_ready (rs := [12]) (by kernel_rfl) (by simp) ?_
                refine AllReadyH.cons (o := ⟨some 60, _, _, _, _, _⟩) rfl (fun K hK => ?_) AllReadyH.nil
                go_simp
                refine hK.out _ _ y3 (fun hHeld => ?_)
                clear hK K
                try simp only [Act.put, List.setIfInBounds_toArray, List.set_cons_zero, List.set_cons_succ]
                refine wpAnyH_ready (rs := [13]) (by kernel_rfl) (by simp) ?_
                refine AllReadyH.cons (o := ⟨some 61, _, _, _, _, _⟩) rfl (fun K hK => ?_) AllReadyH.nil
                refine step_append_lies _ (by rfl) _ _ _ (by rfl) lo 131 i0 _ 20 200 Try.underlying103 hi hz0 hz1 hz2 rfl (by decide) (.slice d.A s.tail d.cap) s.tail (rowF (cellOf d s) s.tail) (by rfl) HM3.out.cells ⟨w1.heap.size + 1, 0, none⟩ 1 1 (newCell w1.heap.size s.cfg.sh) (by rfl) (by rfl) (World.news_of_block (cs := #[.bool false, .bool false, .int .i64 0, .int .i64 0, .int .i64 0, .int .i64 0, .int .i64 0, .int .i64 0, .int .i64 0, .int .i64 0, .int .i64 0, .int .i64 0, .int .i64 0, .slice none 0 0, .int .i64 0, .bool false, .slice (some ⟨w1.heap.size, 0, none⟩) s.cfg.sh s.cfg.sh, .int .i64 0, .int .i64 0, .slice none 0 0]) (t := 131) (fr := (0, 0)) HN3.out) (by simp [newCell, Value.oneCell']) (by decide) (by simp only [maxLen]; omega) (by omega) HLO3.out _ rfl ?_
                intro g cap w7 hown hgr hat hlt7
                obtain ⟨_, hD7, hm7, ho7⟩ := HM3.out.grown HX3.out HLOX.out HFR.out hown hgr
                have y7 : w7.cell? ⟨D, 0, none⟩ = some (.int .i64 s.cfg.sh) := cell_of_blk (cs := docCells d s) hD7 0
                have c7' : w7.cell? ⟨D, 7, none⟩ = some (.slice d.A s.tail d.cap) := cell_of_blk (cs := docCells d s) hD7 7
                have f7' : w7.frozen? ⟨D, 7, none⟩ = false := free_of_blk (cs := docCells d s) hD7 7
                have y8 : (w7.setCell ⟨D, 7, none⟩ (.slice (some ⟨g, 0, none⟩) (s.tail + 1) cap)).cell? ⟨D, 0, none⟩ = some (.int .i64 s.cfg.sh) := cell_of_blk hm7.hD 0
                have c8 : (w7.setCell ⟨D, 7, none⟩ (.slice (some ⟨g, 0, none⟩) (s.tail + 1) cap)).cell? ⟨D, 8, none⟩ = some (.bool s.closed) := cell_of_blk hm7.hD 8
                have f8 : (w7.setCell ⟨D, 7, none⟩ (.slice (some ⟨g, 0, none⟩) (s.tail + 1) cap)).frozen? ⟨D, 8, none⟩ = false := free_of_blk hm7.hD 8
                have HM8 := Lib.hid (hm7.headset 8 (.bool true))
                have HO8 := Lib.hid (only_dock (only_dock HO3.out ho7) (((Only.refl (DocK lo w7) w7).setCell ⟨D, 7, none⟩ (.slice (some ⟨g, 0, none⟩) (s.tail + 1) cap) (.inl ⟨HM3.out.lo.1, _, _, _, hD7, .inl rfl⟩)).setCell ⟨D, 8, none⟩ (.bool true) (.inl ⟨HM3.out.lo.1, _, _, _, hD7, .inl rfl⟩)))
                rw [HCL.out] at c8
                clear hown hgr hat hlt7 hD7 hm7 ho7
                refine hK.out _ _ y7 (fun hHeld => ?_)
                clear hK K
                try simp only [Act.put, List.setIfInBounds_toArray, List.set_cons_zero, List.set_cons_succ]
                refine' wpAnyH_take (i := 14) (oi := ⟨some 62, _, _, _, _, _⟩) (v := ?v14tf) rfl (by kernel_rfl) (by kernel_rfl) (by kernel_rfl) (fun _ _ _ h => h) (Or.inl ⟨by rfl, ?hy14tf⟩) hHeld ?rest14tf
                case hy14tf => (intro W hSw; go_simp; first | done | with_reducible rfl)
                simp only [Act.put, List.setIfInBounds_toArray, List.set_cons_zero, List.set_cons_succ]
                refine' wpAnyH_take (i := 15) (oi := ⟨some 63, _, _, _, _, _⟩) (v := ?v15tf) rfl (by kernel_rfl) (by kernel_rfl) (by kernel_rfl) (fun _ _ _ h => h) (Or.inl ⟨by rfl, ?hy15tf⟩) hHeld ?rest15tf
                case hy15tf => (intro W hSw; go_simp; first | done | with_reducible rfl)
                simp only [Act.put, List.setIfInBounds_toArray, List.set_cons_zero, List.set_cons_succ]
                refine wpAnyH_ready (rs := [16]) (by kernel_rfl) (by simp) ?_
                refine AllReadyH.cons (o := ⟨none, _, _, _, _, _⟩) rfl (fun K hK => ?_) AllReadyH.nil
                go_simp
                refine hK.out _ _ y8 (fun hHeld => ?_)
                clear hK K
                try simp only [Act.put, List.setIfInBounds_toArray, List.set_cons_zero, List.set_cons_succ]
                refine wpAnyH_done (by kernel_rfl) ?_ _
                go_wp2_with fail
                go_ret
                exact ⟨rfl, ⟨_, HH.out.taken true H1.out H2.out hsm HO8.out (by rw [HCL.out]; exact HM8.out)⟩, HO8.out⟩
              · go_simp
                refine hK.out _ _ y3 (fun hHeld => ?_)
                clear hK K
                try simp only [Act.put, List.setIfInBounds_toArray, List.set_cons_zero, List.set_cons_succ]
                refine wpAnyH_ready (rs := [4]) (by kernel_rfl) (by simp) ?_
                refine AllReadyH.cons (o := ⟨some 52, _, _, _, _, _⟩) rfl (fun K hK => ?_) AllReadyH.nil
                go_simp
                refine hK.out _ _ hHeld (fun hHeld => ?_)
                clear hK K
                try simp only [Act.put, List.setIfInBounds_toArray, List.set_cons_zero, List.set_cons_succ]
                refine wpAnyH_ready (rs := [13]) (by kernel_rfl) (by simp) ?_
                refine AllReadyH.cons (o := ⟨some 61, _, _, _, _, _⟩) rfl (fun K hK => ?_) AllReadyH.nil
                refine step_append_lies _ (by rfl) _ _ _ (by rfl) lo 131 i0 _ 20 200 Try.underlying103 hi hz0 hz1 hz2 rfl (by decide) (.slice d.A s.tail d.cap) s.tail (rowF (cellOf d s) s.tail) (by rfl) HM3.out.cells ⟨w1.heap.size + 1, 0, none⟩ 1 1 (newCell w1.heap.size s.cfg.sh) (by rfl) (by rfl) (World.news_of_block (cs := #[.bool false, .bool false, .int .i64 0, .int .i64 0, .int .i64 0, .int .i64 0, .int .i64 0, .int .i64 0, .int .i64 0, .int .i64 0, .int .i64 0, .int .i64 0, .int .i64 0, .slice none 0 0, .int .i64 0, .bool false, .slice (some ⟨w1.heap.size, 0, none⟩) s.cfg.sh s.cfg.sh, .int .i64 0, .int .i64 0, .slice none 0 0]) (t := 131) (fr := (0, 0)) HN3.out) (by simp [newCell, Value.oneCell']) (by decide) (by simp only [maxLen]; omega) (by omega) HLO3.out _ rfl ?_
                intro g cap w7 hown hgr hat hlt7
                obtain ⟨_, hD7, hm7, ho7⟩ := HM3.out.grown HX3.out HLOX.out HFR.out hown hgr
                have y7 : w7.cell? ⟨D, 0, none⟩ = some (.int .i64 s.cfg.sh) := cell_of_blk (cs := docCells d s) hD7 0
                have c7' : w7.cell? ⟨D, 7, none⟩ = some (.slice d.A s.tail d.cap) := cell_of_blk (cs := docCells d s) hD7 7
                have f7' : w7.frozen? ⟨D, 7, none⟩ = false := free_of_blk (cs := docCells d s) hD7 7
                have y8 : (w7.setCell ⟨D, 7, none⟩ (.slice (some ⟨g, 0, none⟩) (s.tail + 1) cap)).cell? ⟨D, 0, none⟩ = some (.int .i64 s.cfg.sh) := cell_of_blk hm7.hD 0
                have c8 : (w7.setCell ⟨D, 7, none⟩ (.slice (some ⟨g, 0, none⟩) (s.tail + 1) cap)).cell? ⟨D, 8, none⟩ = some (.bool s.closed) := cell_of_blk hm7.hD 8
                have f8 : (w7.setCell ⟨D, 7, none⟩ (.slice (some ⟨g, 0, none⟩) (s.tail + 1) cap)).frozen? ⟨D, 8, none⟩ = false := free_of_blk hm7.hD 8
                have HM8 := Lib.hid (hm7.headset 8 (.bool true))
                have HO8 := Lib.hid (only_dock (only_dock HO3.out ho7) (((Only.refl (DocK lo w7) w7).setCell ⟨D, 7, none⟩ (.slice (some ⟨g, 0, none⟩) (s.tail + 1) cap) (.inl ⟨HM3.out.lo.1, _, _, _, hD7, .inl rfl⟩)).setCell ⟨D, 8, none⟩ (.bool true) (.inl ⟨HM3.out.lo.1, _, _, _, hD7, .inl rfl⟩)))
                rw [HCL.out] at c8
                clear hown hgr hat hlt7 hD7 hm7 ho7
                refine hK.out _ _ y7 (fun hHeld => ?_)
                clear hK K
                try simp only [Act.put, List.setIfInBounds_toArray, List.set_cons_zero, List.set_cons_succ]
                refine' wpAnyH_take (i := 14) (oi := ⟨some 62, _, _, _, _, _⟩) (v := ?v16tf) rfl (by kernel_rfl) (by kernel_rfl) (by kernel_rfl) (fun _ _ _ h => h) (Or.inl ⟨by rfl, ?hy16tf⟩) hHeld ?rest16tf
                case hy16tf => (intro W hSw; go_simp; first | done | with_reducible rfl)
                simp only [Act.put, List.setIfInBounds_toArray, List.set_cons_zero, List.set_cons_succ]
                refine' wpAnyH_take (i := 15) (oi := ⟨some 63, _, _, _, _, _⟩) (v := ?v17tf) rfl (by kernel_rfl) (by kernel_rfl) (by kernel_rfl) (fun _ _ _ h => h) (Or.inl ⟨by rfl, ?hy17tf⟩) hHeld ?rest17tf
                case hy17tf => (intro W hSw; go_simp; first | done | with_reducible rfl)
                simp only [Act.put, List.setIfInBounds_toArray, List.set_cons_zero, List.set_cons_succ]
                refine wpAnyH_ready (rs := [16]) (by kernel_rfl) (by simp) ?_
                refine AllReadyH.cons (o := ⟨none, _, _, _, _, _⟩) rfl (fun K hK => ?_) AllReadyH.nil
                go_simp
                refine hK.out _ _ y8 (fun hHeld => ?_)
                clear hK K
                try simp only [Act.put, List.setIfInBounds_toArray, List.set_cons_zero, List.set_cons_succ]
                refine wpAnyH_done (by kernel_rfl) ?_ _
                go_wp2_with fail
                go_ret
                exact ⟨rfl, ⟨_, HH.out.taken true H1.out H2.out hsm HO8.out (by rw [HCL.out]; exact HM8.out)⟩, HO8.out⟩
          · exact absurd ⟨rfl, rfl⟩ hcc
      · rw [decide_eq_false h3] at hr
        simp only [Bool.false_and] at hr
        subst hr
        simp only [Bool.false_eq_true, if_false] at hs'
        subst hs'
        have d3 : decide ((s.cfg.inb : Int) ≤ (s.tail : Int) - s.low) = true := decide_eq_true (by omega)
        go_enter Try.func48, Try.ntmps48
        go_wp2_with fail
        go_quiet (fail)
        go_wp2_with fail
        go_ret
        exact ⟨rfl, STAY.out _⟩
  · rw [decide_eq_false h1] at hr
    simp only [Bool.false_and] at hr
    subst hr
    simp only [Bool.false_eq_true, if_false] at hs'
    subst hs'
    have e1 : (t != (s.tail : Int)) = true := by simpa using h1
    go_enter Try.func48, Try.ntmps48
    go_wp2_with fail
    go_quiet (fail)
    go_wp2_with fail
    go_ret
    exact ⟨rfl, STAY.out _⟩
end Go.Proofs.Ytibbnikfecilhaa
