/- Chapter 6: TupleSorts. -/
import Derived.Test.YtmiijnemacgbiaaTupT
namespace Go.Proofs.Ytmiijnemacgbiaa
open Go.RowKit
set_option linter.unusedVariables false
set_option linter.unusedSimpArgs false

/-- How many of the first K are the same as x. -/
def cntM (x : MatV) (ms : List MatV) (K : Nat) : Nat := (ms.take K).countP fun y => decide (cmpM x y = 0)
theorem cntM_step {x y : MatV} {ms : List MatV} {K : Nat} (h : ms[K]? = some y) : cntM x ms (K + 1) = cntM x ms K + if cmpM x y = 0 then 1 else 0 := by
  unfold cntM
  rw [List.take_add_one, h, List.countP_append]
  simp [List.countP_cons]
theorem cntM_all {x : MatV} {ms l : List MatV} {n : Nat} (hp : l.Perm ms) (hn : ms.length = n) : cntM x l n = cntM x ms n := by
  unfold cntM
  rw [List.take_of_length_le (by rw [hp.length_eq, hn]; exact Nat.le_refl _), List.take_of_length_le (by rw [hn]; exact Nat.le_refl _)]
  exact hp.countP_eq _
theorem cntM_le (x : MatV) (ms : List MatV) (K : Nat) : cntM x ms K ≤ K := by
  unfold cntM
  exact Nat.le_trans List.countP_le_length (by rw [List.length_take]; omega)
theorem MatsAt.at_ {w : World} {A : Option Addr} {n : Nat} {ms : List MatV} (h : MatsAt w A n ms) {i : Nat} (hi : i < n) : ∃ m, ms[i]? = some m ∧ m ∈ ms := by
  have := List.getElem?_eq_getElem (show i < ms.length by rw [h.len]; exact hi)
  exact ⟨_, this, List.mem_of_getElem? this⟩
theorem MatsAt.cell {w : World} {A : Option Addr} {n : Nat} {ms : List MatV} (h : MatsAt w A n ms) (hn : 0 < n) : ∃ b off, A = some ⟨b, off, none⟩ ∧ ∀ W, Below w.heap.size w W → ∀ i m, ms[i]? = some m → W.cell? ⟨b, off + i, none⟩ = some (.slice m.a m.n m.c) := by
  obtain ⟨b, off, rfl, hb, hc⟩ := h.cells hn
  exact ⟨b, off, rfl, fun W hW i m hm => (hW.cell (p := ⟨b, off + i, none⟩) hb).trans (hc i m hm)⟩
theorem InOrder.next {l : List MatV} (h : InOrder l) {I : Nat} {x y : MatV} (hx : l[I]? = some x) (hy : l[I + 1]? = some y) : cmpM x y ≤ 0 := by
  obtain ⟨h1, rfl⟩ := List.getElem?_eq_some_iff.1 hx
  obtain ⟨h2, rfl⟩ := List.getElem?_eq_some_iff.1 hy
  exact List.pairwise_iff_getElem.1 h _ _ h1 h2 (Nat.lt_succ_self _)
/-- Two matches that can be read at every later world, held against each other. -/
theorem cmp_later {w0 : World} {x y : MatV} (hx : MatOk w0 x) (hy : MatOk w0 y) {Z : Int} (hZ : cmpM x y = Z) {wr : World} (hW : Below w0.heap.size w0 wr) : ∀ nq, Calls Try.prog 10 #[.slice x.a x.n x.c, .slice y.a y.n y.c] (wr.drewN nq) fun e w' => e = .returned (.int .i64 Z) ∧ w' = wr.drewN nq := fun nq => by
  have := cmp_hid hx hy _ (bl_drewN hW nq)
  rwa [hZ] at this
/-- A callee that draws nothing, behind a region that drew. -/
theorem quiet_same2 {P : Program} {f : FuncId} {args : Array Value} {w : World} {q n : Nat} {v : Value}
    (h : Calls P f args (w.drewN (q + n)) fun e w' => e = .returned v ∧ w' = w.drewN (q + n)) : Calls P f args (w.drewN (q + n)) fun e w'' => e = .returned v ∧ ∃ m, w'' = w.drewN (q + m) :=
  h.mono fun _ _ ⟨he, hm⟩ => ⟨he, n, hm⟩
set_option maxRecDepth 100000 in
set_option maxHeartbeats 8000000 in
theorem sorts_law (a0 : Option Addr) (n0 c0 : Nat) (x0 : List (List Int)) (w : World) (hr0 : RowAt (kSlice (kInt .i64) 8) 24 w a0 n0 x0) :
    Calls Try.prog 5 #[.slice a0 n0 c0] w fun e w' => e = .returned (.bool true) ∧ Below w.heap.size w w' := by
  obtain ⟨r0, hR0, _⟩ := hr0.rows
  obtain ⟨i0, hi, hz0, hz1, hz2⟩ := info_parts infoMat
  have HR0 := Lib.hid hR0
  clear hr0 hR0
  go_enter Try.func5, Try.ntmps5
  go_wp2_with fail
  refine (awake_any _).mono ?_
  rintro e w1 ⟨rfl, hb1⟩
  have HB1 := Lib.hid hb1
  clear hb1
  go_wp2_with fail
  refine (matches_at (HR0.out.below HB1.out)).mono ?_
  rintro e w2 ⟨A, n, c, ms, rfl, hM, hown, hb2⟩
  have hn := hM.few
  have hE0 := alloc_new w2 (.cells #[] 22)
  have hE : (w2.alloc (.cells #[] 22)).ownsRow w2.heap.size 22 1 (.slice (some ⟨w2.heap.size, 0, none⟩) 0 0) 0 [] := ⟨rfl, .inr ⟨_, 0, #[], rfl, Nat.le_refl _, hE0, Nat.le_refl _, by decide, rfl, rfl⟩⟩
  have hRd := Reads.of_own (hown.alloc (.cells #[] 22)) (fun u hu => matCells_one hu)
  have hbE := bl_alloc (Below.refl _ w2) (.cells #[] 22)
  have hEs := hbE.size
  have HE := Lib.hid hE
  have HRD := Lib.hid hRd
  have HBE := Lib.hid hbE
  have HM := Lib.hid hM
  have HB2 := Lib.hid (bl_then HB1.out hb2)
  have step1 : ∀ (v5 : Value) (w5 : World), w5.ownsRow w2.heap.size 22 1 v5 (0 + n) ([] ++ matCells ms) → (w2.alloc (.cells #[] 22)).grownBy w5 ((Value.slice (some ⟨w2.heap.size, 0, none⟩) 0 0).ownBlock) → ∃ Ak ck, v5 = .slice Ak n ck ∧ MatsAt w5 Ak n ms ∧ MatsAt w5 A n ms ∧ Below w2.heap.size w2 w5 := by
    intro v5 w5 h5 hg5
    rw [Nat.zero_add, List.nil_append] at h5
    have ho5 := only_grown (S := fun k => k = w2.heap.size) (Only.refl _ _) hg5 (fun k hk => .inl (by injection hk with hk; exact hk.symm))
    have hb5 := bl_only HBE.out ho5 (by rintro k rfl; exact Nat.le_refl _)
    obtain ⟨Ak, ck, rfl⟩ := own_form h5
    exact ⟨Ak, ck, rfl, .of_own h5 hn (fun m hm => (HM.out.each m hm).below hb5), HM.out.below hb5, hb5⟩
  have S1 := Lib.hid step1
  clear hM hown hE0 hE hRd hbE hb2 step1
  go_wp2_with (at_builtin; refine wpList_append_reads _ rfl (.tmp 14) (.tmp 15) 34 rfl w2.heap.size 22 i0 _ 1 24 Try.underlying34 hi hz0 hz1 hz2 rfl (by decide) _ 0 [] rfl HE.out _ n _ rfl HRD.out (by simp only [maxLen]; omega) (by omega) hEs ?_; intro v5 w5 hown5 hgr5; obtain ⟨Ak, ck, rfl, hK, hM5, hb5⟩ := S1.out v5 w5 hown5 hgr5)
  have HS := Lib.hid (sort_at (c := c) hM5)
  have HK := Lib.hid hK
  have HM5 := Lib.hid hM5
  have HB5 := Lib.hid (bl_then HB2.out hb5)
  clear hK hM5 hb5 hown5 hgr5 S1 HE HRD HBE
  refine HS.out.mono ?_
  rintro e w6 ⟨As, cs, l, rfl, hperm, hord, hS6, hb6⟩
  have HK6 := Lib.hid (HK.out.below hb6)
  have HM6 := Lib.hid (HM5.out.below hb6)
  have HS6 := Lib.hid hS6
  have HB6 := Lib.hid (bl_then HB5.out hb6)
  have HP := Lib.hid hperm
  have HO := Lib.hid hord
  clear hS6 hb6 hperm hord HS HK HM5 HB5 HM HB2
  go_wp2_with fail
  go_loopw [7] (fun i wr => ∃ I : Nat, I ≤ n ∧ i = .int .i64 I ∧ Below w6.heap.size w6 wr) (fun i _ => n - (intOf i).toNat)
  case atStart => exact ⟨0, Nat.zero_le _, rfl, Below.refl _ _⟩
  case round =>
    obtain ⟨I, hI, rfl, hbr⟩ := hrel
    by_cases hlt : I < n
    · have iI : (I : Int) < n := by omega
      obtain ⟨bs, os, rfl, hcs⟩ := HS6.out.cell (by omega)
      obtain ⟨bm, om, rfl, hcm⟩ := HM6.out.cell (by omega)
      obtain ⟨bk, ok, rfl, hck⟩ := HK6.out.cell (by omega)
      obtain ⟨x, hx, hxm⟩ := HS6.out.at_ hlt
      obtain ⟨y, hy, hym⟩ := HM6.out.at_ hlt
      have hxok := HS6.out.each x hxm
      have hyok := HM6.out.each y hym
      have cx := hcs wr hbr I x hx
      have CYY : Hid (∀ W, Below w6.heap.size w6 W → ∀ nq, Calls Try.prog 10 #[.slice y.a y.n y.c, .slice y.a y.n y.c] (W.drewN nq) fun e w' => e = .returned (.int .i64 0) ∧ w' = W.drewN nq) := Lib.hid fun W hW => cmp_later hyok hyok (show cmpM y y = 0 from cmpLL_ord.refl _) hW
      have hprev : ∀ M, I = M + 1 → ∃ (p : MatV) (Z : Int), wr.cell? ⟨bs, os + M, none⟩ = some (.slice p.a p.n p.c) ∧ Z ≤ 0 ∧ (∀ nq, Calls Try.prog 10 #[.slice p.a p.n p.c, .slice x.a x.n x.c] (wr.drewN nq) fun e w' => e = .returned (.int .i64 Z) ∧ w' = wr.drewN nq) := fun M hM => by
        obtain ⟨p, hp, hpm⟩ := HS6.out.at_ (i := M) (by omega)
        subst hM
        exact ⟨p, _, hcs wr hbr M p hp, HO.out.next hp hx, cmp_later (HS6.out.each p hpm) hxok rfl hbr⟩
      have HX := Lib.hid hx
      have HXM := Lib.hid hxok
      have HCS := Lib.hid hcs
      have HCM := Lib.hid hcm
      have HCK := Lib.hid hck
      have HY := Lib.hid hy
      have HBR := Lib.hid hbr
      clear hx hxok hcs hcm hck hy hyok hbr hxm hym
      have hI01 : ¬ 0 < I ∨ ∃ M, I = M + 1 := by cases I with | zero => exact .inl (Nat.lt_irrefl 0) | succ M => exact .inr ⟨M, rfl⟩
      rcases hI01 with d0 | ⟨M, hM⟩
      · clear hprev
        go_wp2_with fail
        go_quiet (fail)
        go_wp2_with fail
        have hst : Below w6.heap.size w6 (wr.drewN nq) := bl_drewN HBR.out _
        have HST := Lib.hid hst
        clear hst
        go_loopw [8, 9, 10] (fun a b k W => ∃ K : Nat, K ≤ n ∧ k = .int .i64 K ∧ a = .int .i64 (cntM x ms K : Nat) ∧ b = .int .i64 (cntM x l K : Nat) ∧ Below w6.heap.size w6 W) (fun _ _ k _ => n - (intOf k).toNat)
        case atStart => exact ⟨0, Nat.zero_le _, rfl, rfl, rfl, HST.out⟩
        case round =>
          obtain ⟨K, hK, rfl, rfl, rfl, hb8⟩ := hrel
          by_cases hk : K < n
          · have iK : (K : Int) < n := by omega
            obtain ⟨u, hu, hum⟩ := HM6.out.at_ hk
            obtain ⟨v, hv, hvm⟩ := HS6.out.at_ hk
            have c1 := HCS.out wr hb8 I x HX.out
            have c2 := HCM.out wr hb8 K u hu
            have c3 := HCS.out wr hb8 K v hv
            obtain ⟨Z1, hZ1⟩ : ∃ Z, cmpM x u = Z := ⟨_, rfl⟩
            obtain ⟨Z2, hZ2⟩ : ∃ Z, cmpM x v = Z := ⟨_, rfl⟩
            have C1 := Lib.hid (cmp_later HXM.out (HM6.out.each u hum) hZ1 hb8)
            have C2 := Lib.hid (cmp_later HXM.out (HS6.out.each v hvm) hZ2 hb8)
            have s1 := cntM_step (x := x) hu
            have s2 := cntM_step (x := x) hv
            have l1 := cntM_le x ms K
            have l2 := cntM_le x l K
            have hn12 := HS6.out.few
            rw [hZ1] at s1
            rw [hZ2] at s2
            have T1 := Lib.hid s1
            have T2 := Lib.hid s2
            have HB8 := Lib.hid hb8
            generalize cntM x ms K = N1 at *
            generalize cntM x l K = N2 at *
            clear hu hum hv hvm hZ1 hZ2 s1 s2 hb8
            by_cases e1 : Z1 = 0 <;> by_cases e2 : Z2 = 0
            all_goals
              have t1 := T1.out
              have t2 := T2.out
              first | rw [if_pos e1] at t1 | rw [if_neg e1] at t1
              first | rw [if_pos e2] at t2 | rw [if_neg e2] at t2
              have T1 := Lib.hid t1
              have T2 := Lib.hid t2
              clear t1 t2
              first | subst e1 | (have q1 : (Z1 == 0) = false := by simpa using e1)
              first | subst e2 | (have q2 : (Z2 == 0) = false := by simpa using e2)
              go_wp2_with fail
              go_quiet ((go_at_call 10; exact Calls.quiet_of_same (C1.out _)))
              go_wp2_with fail
              go_quiet ((go_at_call 10; exact quiet_same2 (C2.out _)))
              go_wp2_with fail
              go_roundw
              case rel => exact ⟨K + 1, hk, by simp, by rw [T1.out]; simp, by rw [T2.out]; simp, bl_drewN HB8.out _⟩
              case measure => simp [intOf]; omega
          · obtain rfl : K = n := by omega
            have iK : ¬ (K : Int) < K := by omega
            have hcnt := cntM_all (x := x) HP.out HM6.out.len
            rw [← hcnt]
            have d1 := HCM.out wr hb8 I y HY.out
            have d2 := HCK.out wr hb8 I y HY.out
            have C3 := Lib.hid (CYY.out wr hb8)
            have HB8 := Lib.hid hb8
            have l2 := cntM_le x l K
            have hn12 := HS6.out.few
            generalize cntM x l K = N2 at *
            clear hcnt hb8
            go_wp2_with fail
            go_quiet ((go_at_call 10; exact Calls.quiet_of_same (C3.out _)))
            go_wp2_with fail
            exact ⟨⟨I + 1, hlt, by simp, bl_drewN HB8.out _⟩, by simp [intOf]; omega⟩
      · obtain ⟨p, Z, cp, hZ, hcall⟩ := hprev M hM
        have hM1 : (I : Int) - 1 = (M : Nat) := by omega
        have iM : (M : Int) < n := by omega
        have d0 : 0 < I := by omega
        have HCALL := Lib.hid hcall
        clear hprev hM hcall
        go_wp2_with fail
        go_quiet ((go_at_call 10; exact Calls.quiet_of_same (HCALL.out _)))
        go_wp2_with fail
        have hst : Below w6.heap.size w6 (wr.drewN nq) := bl_drewN HBR.out _
        have HST := Lib.hid hst
        clear hst
        go_loopw [8, 9, 10] (fun a b k W => ∃ K : Nat, K ≤ n ∧ k = .int .i64 K ∧ a = .int .i64 (cntM x ms K : Nat) ∧ b = .int .i64 (cntM x l K : Nat) ∧ Below w6.heap.size w6 W) (fun _ _ k _ => n - (intOf k).toNat)
        case atStart => exact ⟨0, Nat.zero_le _, rfl, rfl, rfl, HST.out⟩
        case round =>
          obtain ⟨K, hK, rfl, rfl, rfl, hb8⟩ := hrel
          by_cases hk : K < n
          · have iK : (K : Int) < n := by omega
            obtain ⟨u, hu, hum⟩ := HM6.out.at_ hk
            obtain ⟨v, hv, hvm⟩ := HS6.out.at_ hk
            have c1 := HCS.out wr hb8 I x HX.out
            have c2 := HCM.out wr hb8 K u hu
            have c3 := HCS.out wr hb8 K v hv
            obtain ⟨Z1, hZ1⟩ : ∃ Z, cmpM x u = Z := ⟨_, rfl⟩
            obtain ⟨Z2, hZ2⟩ : ∃ Z, cmpM x v = Z := ⟨_, rfl⟩
            have C1 := Lib.hid (cmp_later HXM.out (HM6.out.each u hum) hZ1 hb8)
            have C2 := Lib.hid (cmp_later HXM.out (HS6.out.each v hvm) hZ2 hb8)
            have s1 := cntM_step (x := x) hu
            have s2 := cntM_step (x := x) hv
            have l1 := cntM_le x ms K
            have l2 := cntM_le x l K
            have hn12 := HS6.out.few
            rw [hZ1] at s1
            rw [hZ2] at s2
            have T1 := Lib.hid s1
            have T2 := Lib.hid s2
            have HB8 := Lib.hid hb8
            generalize cntM x ms K = N1 at *
            generalize cntM x l K = N2 at *
            clear hu hum hv hvm hZ1 hZ2 s1 s2 hb8
            by_cases e1 : Z1 = 0 <;> by_cases e2 : Z2 = 0
            all_goals
              have t1 := T1.out
              have t2 := T2.out
              first | rw [if_pos e1] at t1 | rw [if_neg e1] at t1
              first | rw [if_pos e2] at t2 | rw [if_neg e2] at t2
              have T1 := Lib.hid t1
              have T2 := Lib.hid t2
              clear t1 t2
              first | subst e1 | (have q1 : (Z1 == 0) = false := by simpa using e1)
              first | subst e2 | (have q2 : (Z2 == 0) = false := by simpa using e2)
              go_wp2_with fail
              go_quiet ((go_at_call 10; exact Calls.quiet_of_same (C1.out _)))
              go_wp2_with fail
              go_quiet ((go_at_call 10; exact quiet_same2 (C2.out _)))
              go_wp2_with fail
              go_roundw
              case rel => exact ⟨K + 1, hk, by simp, by rw [T1.out]; simp, by rw [T2.out]; simp, bl_drewN HB8.out _⟩
              case measure => simp [intOf]; omega
          · obtain rfl : K = n := by omega
            have iK : ¬ (K : Int) < K := by omega
            have hcnt := cntM_all (x := x) HP.out HM6.out.len
            rw [← hcnt]
            have d1 := HCM.out wr hb8 I y HY.out
            have d2 := HCK.out wr hb8 I y HY.out
            have C3 := Lib.hid (CYY.out wr hb8)
            have HB8 := Lib.hid hb8
            have l2 := cntM_le x l K
            have hn12 := HS6.out.few
            generalize cntM x l K = N2 at *
            clear hcnt hb8
            go_wp2_with fail
            go_quiet ((go_at_call 10; exact Calls.quiet_of_same (C3.out _)))
            go_wp2_with fail
            exact ⟨⟨I + 1, hlt, by simp, bl_drewN HB8.out _⟩, by simp [intOf]; omega⟩
    · obtain rfl : I = n := by omega
      have iI : ¬ (I : Int) < I := by omega
      go_wp2_with fail
      go_ret
      exact ⟨rfl, bl_then HB6.out hbr⟩
end Go.Proofs.Ytmiijnemacgbiaa
