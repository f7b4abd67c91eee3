/- Chapter 6: the document's own Sort. -/
import Derived.Test.YtmiijnemacgbiaaTupY
import Derived.Deep.RegionLawGrows
namespace Go.Proofs.Ytmiijnemacgbiaa
open Go.RowKit
set_option linter.unusedVariables false
set_option linter.unusedSimpArgs false

theorem inOrder_put {pl : List MatV} {x : MatV} {T : Nat} (h : InOrder pl) (hT : T ≤ pl.length) (h1 : ∀ q ∈ pl.drop T, 0 < cmpM q x) (h2 : ∀ M y, T = M + 1 → pl[M]? = some y → cmpM y x ≤ 0) : InOrder (pl.take T ++ [x] ++ pl.drop T) := by
  have ho := cmpLL_ord
  unfold InOrder at *
  have hsp := h
  rw [← List.take_append_drop T pl, List.pairwise_append] at hsp
  obtain ⟨g1, g2, g3⟩ := hsp
  have hpx : ∀ p ∈ pl.take T, cmpM p x ≤ 0 := by
    intro p hp
    cases T with
    | zero => simp at hp
    | succ M =>
      have hM : M < pl.length := by omega
      have hy := List.getElem?_eq_getElem hM
      have hyx : cmpM pl[M] x ≤ 0 := h2 M _ rfl hy
      obtain ⟨i, hi, rfl⟩ := List.mem_iff_getElem.1 hp
      rw [List.length_take] at hi
      rw [List.getElem_take]
      by_cases e : i = M
      · subst e; exact hyx
      · exact ho.le _ _ _ (List.pairwise_iff_getElem.1 h i M (by omega) hM (by omega)) hyx
  have hxq : ∀ q ∈ pl.drop T, cmpM x q ≤ 0 := fun q hq => by
    have h3 := h1 q hq
    have h4 := ho.anti q.num x.num
    unfold cmpM at *
    omega
  rw [List.append_assoc, List.pairwise_append]
  refine ⟨g1, List.pairwise_cons.2 ⟨hxq, g2⟩, fun a ha b hb => ?_⟩
  rcases List.mem_cons.1 hb with rfl | hb
  · exact hpx a ha
  · exact g3 a ha b hb
theorem put_perm {pl l : List MatV} (h : pl.Perm l) (T : Nat) (x : MatV) : (pl.take T ++ [x] ++ pl.drop T).Perm (l ++ [x]) := by
  rw [List.append_assoc]
  refine List.Perm.trans (l₂ := x :: (pl.take T ++ pl.drop T)) List.perm_middle ?_
  rw [List.take_append_drop]
  exact (List.Perm.cons x h).trans (List.perm_append_singleton x l).symm
/-- An append to a row that the code owns, of what may be nothing, as a step of a region that draws. -/
theorem step_append_reads {w : World} {ops : Array Oper} {o : Oper} {a : Act} {K : Act → World → Prop} {Q : Exit → Act → World → Prop} {E : Prop} (hgd : o.guard = none) (s x : Operand)
    (t e : TypeId) (ho : o.op = .call { callee := .builtin .append, args := #[s, x], argTypes := #[t, t] })
    (i : TypeInfo) (z : Value) (bytes : Nat) (ht : Try.prog.underlying t = some (.slice e)) (hi : Try.prog.info? e = some i) (hz : i.zero = some z) (hsize : i.size = 1) (hby : i.bytes = bytes) (hzs : z.cells.size = 1)
    (base : Nat) (v : Value) (n : Nat) (xs : List Value) (hs : a.eval s = v) (hown : w.ownsRow base e 1 v n xs) (xv : Value) (m : Nat) (news : List Value) (hx : a.eval x = xv) (hr : Reads w 1 xv m news)
    (h63 : n + m ≤ maxLen) (hbytes : (n + m) * bytes ≤ 140737488355328) (hbase : base ≤ w.heap.size)
    (h : ∀ A c w', w'.ownsRow base e 1 (.slice A (n + m) c) (n + m) (xs ++ news) → w.grownBy w' v.ownBlock → K (a.put o.dst (.slice A (n + m) c)) w') :
    if Region.wanted o (yielded ops a.tmps) = true then Oper.wp Try.prog o a w K Q else E := by
  have hw : Region.wanted o (yielded ops a.tmps) = true := by simp [Region.wanted, hgd]
  rw [if_pos hw]
  rcases hr.at_ with ⟨ad, c, rfl, hc⟩ | ⟨rfl, rfl⟩
  · obtain ⟨v', w', hrun, hown', hgr, _, _⟩ := run_append_own_at (P := Try.prog) w base t o.type e i z 1 bytes ht hi hz hsize hby hzs (by decide) v n xs hown ad m c news hr.len hc hr.one h63 hbytes hbase
    obtain ⟨A, c', rfl⟩ := own_form hown'
    unfold Oper.wp execOp
    simp only [ho, resolve, invoke, builtin, Sem.run_bind, Sem.run_pure, Result.andThen_ok, List.map_toArray, List.map_cons, List.map_nil, hs, hx, hrun]
    exact h A c' w' hown' hgr
  · have hd : news = [] := List.eq_nil_of_length_eq_zero (by simpa using hr.len)
    subst hd
    have hrun := run_append_owned_none (P := Try.prog) (w := w) base t o.type e i 1 ht hi v n xs hown
    obtain ⟨A, c', rfl⟩ := own_form hown
    unfold Oper.wp
    simp [execOp, ho, resolve, invoke, builtin, hs, hx, hrun, Result.andThen]
    exact h A c' w (by rw [Nat.add_zero, List.append_nil]; exact hown) ⟨rfl, rfl, rfl, Nat.le_refl _, fun _ _ _ => rfl⟩
set_option maxRecDepth 100000 in
set_option maxHeartbeats 8000000 in
theorem rsort_at {w : World} {A : Option Addr} {n c : Nat} {ms : List MatV} (h : MatsAt w A n ms) :
    Calls Try.prog 21 #[.slice A n c] w (Sorted w n ms) := by
  obtain ⟨i0, hi, hz0, hz1, hz2⟩ := info_parts infoMat
  have hn := h.few
  have H := Lib.hid h
  clear h
  go_enter Try.func21, Try.ntmps21
  go_wp2_with fail
  go_loopw [3, 4] (fun o i wr => ∃ (I : Nat) (pl : List MatV), I ≤ n ∧ i = .int .i64 I ∧ (I = 0 → o = .slice none 0 0) ∧ wr.ownsRow w.heap.size 22 1 o I (matCells pl) ∧ pl.Perm (ms.take I) ∧ InOrder pl ∧ Below w.heap.size w wr) (fun _ i _ => n - (intOf i).toNat)
  case atStart => exact ⟨0, [], Nat.zero_le _, rfl, fun _ => rfl, ⟨rfl, .inl ⟨rfl, rfl⟩⟩, List.Perm.refl _, List.Pairwise.nil, Below.refl _ _⟩
  case round =>
    obtain ⟨I, pl, hI, rfl, hnil, hrow, hperm, hord, hb⟩ := hrel
    by_cases hlt : I < n
    · have iI : (I : Int) < n := by omega
      obtain ⟨bm, om, rfl, hcm⟩ := H.out.cell (by omega)
      obtain ⟨x, hx, hxm⟩ := H.out.at_ hlt
      have hxok := H.out.each x hxm
      have hcm := fun W hW => hcm W hW I x hx
      have htk : ms.take (I + 1) = ms.take I ++ [x] := by rw [List.take_add_one, hx]; rfl
      have hpl : pl.length = I := by rw [hperm.length_eq, List.length_take, H.out.len]; omega
      have hplm : ∀ q ∈ pl, MatOk w q := fun q hq => H.out.each q (List.mem_of_mem_take (hperm.subset hq))
      have HCM := Lib.hid hcm
      have HTK := Lib.hid htk
      have HXOK := Lib.hid hxok
      have HPL := Lib.hid hplm
      have HPLL := Lib.hid hpl
      have HPERM := Lib.hid hperm
      have HORD := Lib.hid hord
      clear hcm htk hxok hplm hpl hperm hord hx hxm
      rcases Nat.lt_or_ge 0 I with hI0 | hI0
      · obtain ⟨Ao, co, rfl⟩ := own_form hrow
        obtain ⟨G, rfl, hGlo, hIco, _, _⟩ := own_some hrow (by omega)
        have HROW := Lib.hid hrow
        have HB := Lib.hid hb
        have hst : ∃ T : Nat, T ≤ I ∧ Value.int .i64 (I : Int) = .int .i64 (T : Int) ∧ (∀ q ∈ pl.drop T, 0 < cmpM q x) ∧ wr.ownsRow w.heap.size 22 1 (.slice (some ⟨G, 0, none⟩) I co) I (matCells pl) ∧ Below w.heap.size w wr := ⟨I, Nat.le_refl _, rfl, (fun q hq => by rw [List.drop_of_length_le (by rw [HPLL.out]; exact Nat.le_refl _)] at hq; cases hq), hrow, hb⟩
        have HST := Lib.hid hst
        clear hrow hb hst
        go_wp2_with fail
        go_loopw [5] (fun t W => ∃ T : Nat, T ≤ I ∧ t = .int .i64 T ∧ (∀ q ∈ pl.drop T, 0 < cmpM q x) ∧ W.ownsRow w.heap.size 22 1 (.slice (some ⟨G, 0, none⟩) I co) I (matCells pl) ∧ Below w.heap.size w W) (fun t _ => (intOf t).toNat)
        case atStart => exact HST.out
        case round =>
          obtain ⟨T, hT, rfl, hdrop, hrow, hb⟩ := hrel
          have cx := HCM.out _ hb
          have hT01 : ¬ 0 < T ∨ ∃ M, T = M + 1 := by cases T with | zero => exact .inl (Nat.lt_irrefl 0) | succ M => exact .inr ⟨M, rfl⟩
          have HDROP := Lib.hid hdrop
          have HROW := Lib.hid hrow
          have HB := Lib.hid hb
          clear hdrop hrow
          rcases hT01 with d0 | ⟨M, hM⟩
          · have hstop : ∀ M y, T = M + 1 → pl[M]? = some y → cmpM y x ≤ 0 := fun M y e => by omega
            have HSTOP := Lib.hid hstop
            clear hstop hb
            go_wp2_with fail
            go_quiet (fail)
            have hco : ¬ co = T := by omega
            obtain ⟨W0, hW0⟩ : ∃ W0, W0 = wr.drewN nq := ⟨_, rfl⟩
            have hb0 : Below w.heap.size w W0 := by rw [hW0]; exact bl_drewN HB.out nq
            have hrow0 : W0.ownsRow w.heap.size 22 1 (.slice (some ⟨G, 0, none⟩) I co) I (matCells pl) := by rw [hW0]; exact HROW.out
            simp only [← hW0]
            clear hW0
            have hbE := bl_alloc hb0 (.cells #[] 22)
            have hown0 : (W0.alloc (.cells #[] 22)).ownsRow W0.heap.size 22 1 (.slice (some ⟨W0.heap.size, 0, none⟩) 0 0) 0 [] := ⟨rfl, .inr ⟨_, 0, #[], rfl, Nat.le_refl _, alloc_new _ _, Nat.le_refl _, Nat.zero_le _, rfl, rfl⟩⟩
            have hr1 : Reads (W0.alloc (.cells #[] 22)) 1 (.slice (some ⟨G, T, none⟩) (I - T) (co - T)) (I - T) ((matCells pl).drop T) := by
              have := Reads.tail (hrow0.alloc (.cells #[] 22)) (fun u hu => matCells_one hu) T (by omega)
              rw [if_neg hco] at this
              simpa [Addr.add_lit] using this
            have hlen1 : ((matCells pl).drop T).length = (I - T) := by have := hr1.len; omega
            have hone1 : ∀ u ∈ ((matCells pl).drop T), u.oneCell' = true := hr1.one
            have hwhole : ((matCells pl).take T ++ [.slice x.a x.n x.c]) ++ (matCells pl).drop T = matCells (pl.take T ++ [x] ++ pl.drop T) := by
              rw [matCells_append, matCells_append]
              unfold matCells
              rw [List.map_take, List.map_drop]
              first | rfl | (congr 1; symm; rw [List.drop_of_length_le]; rw [List.length_map, HPLL.out]; omega)
            have step1 : ∀ (v1 : Value) (w2 : World), w2.ownsRow W0.heap.size 22 1 v1 (0 + (I - T)) ([] ++ (matCells pl).drop T) → (W0.alloc (.cells #[] 22)).grownBy w2 (Value.slice (some ⟨W0.heap.size, 0, none⟩) 0 0).ownBlock →
                ∃ A1 c1, v1 = .slice A1 (I - T) c1 ∧ w2.ownsRow w.heap.size 22 1 (.slice A1 (I - T) c1) (I - T) ((matCells pl).drop T) ∧ w2.ownsRow w.heap.size 22 1 (.slice (some ⟨G, 0, none⟩) I co) I (matCells pl) ∧ Below w.heap.size w w2 := by
              intro v1 w2 h1 hg
              rw [Nat.zero_add, List.nil_append] at h1
              have ho2 : Only (fun k => k = W0.heap.size) (W0.alloc (.cells #[] 22)) w2 := only_grown (Only.refl _ _) hg (fun k hk => .inl (by injection hk with hk; exact hk.symm))
              obtain ⟨A1, c1, rfl⟩ := own_form h1
              refine ⟨A1, c1, rfl, ownsRow_base h1 hb0.size, ownsRow_kept (hrow0.alloc _) ho2 ?_, bl_only hbE ho2 (by rintro k rfl; exact hb0.size)⟩
              rintro k rfl hk
              exact absurd (own_lt hrow0 hk) (Nat.lt_irrefl _)
            have hz0s := hbE.size
            have hz0t : W0.heap.size ≤ (W0.alloc (.cells #[] 22)).heap.size := by simp
            have HOWN0 := Lib.hid hown0
            have HR1 := Lib.hid hr1
            have STEP1 := Lib.hid step1
            have HONE := Lib.hid hone1
            have HLEN := Lib.hid hlen1
            have HWH := Lib.hid hwhole
            clear hown0 hr1 step1 hbE hb0 hrow0 hone1 hlen1 hwhole
            have iT : (T : Int) ≤ I := by omega
            have iT2 : (T : Int) ≤ co := by omega
            go_wp2_with (at_builtin; refine wpList_append_reads _ rfl (.tmp 32) (.tmp 35) 34 rfl W0.heap.size 22 i0 _ 1 24 Try.underlying34 hi hz0 hz1 hz2 rfl (by decide) _ 0 [] rfl HOWN0.out _ (I - T) _ rfl HR1.out (by simp only [maxLen]; omega) (by omega) hz0t ?_; intro v1 w2 hown1 hgr1; obtain ⟨A1, c1, rfl, hv2, hrow2, hb2⟩ := STEP1.out v1 w2 hown1 hgr1)
            have cx2 := HCM.out _ hb2
            obtain ⟨w3, hw3⟩ : ∃ w3, w3 = w2.drew.alloc (.cells #[.slice x.a x.n x.c] 22) := ⟨_, rfl⟩
            have hrow3 : w3.ownsRow w.heap.size 22 1 (.slice (some ⟨G, 0, none⟩) I co) I (matCells pl) := by rw [hw3]; exact hrow2.alloc (.cells #[.slice x.a x.n x.c] 22)
            have hv3 : w3.ownsRow w.heap.size 22 1 (.slice A1 (I - T) c1) (I - T) ((matCells pl).drop T) := by rw [hw3]; exact hv2.alloc (.cells #[.slice x.a x.n x.c] 22)
            have hb3 : Below w.heap.size w w3 := by rw [hw3]; exact bl_alloc (bl_drew hb2) (.cells #[.slice x.a x.n x.c] 22)
            have hn3 : ∀ j u, [Value.slice x.a x.n x.c][j]? = some u → w3.cell? ((⟨w2.heap.size, 0, none⟩ : Addr).add j) = some u := by
              rw [hw3]
              exact World.news_of_block (cs := #[.slice x.a x.n x.c]) (t := 22) (fr := (0, 0)) (alloc_new w2.drew (.cells #[.slice x.a x.n x.c] 22))
            have hold3 : ∀ b, (some (⟨G, 0, none⟩ : Addr) : Option Addr) = some b → ∀ j u, ((matCells pl).take T)[j]? = some u → w3.cell? (b.add j) = some u := by
              intro b e j u hj
              injection e with e
              subst e
              refine hrow3.cells (g := G) rfl j u ?_
              rw [List.getElem?_take] at hj
              split at hj
              · exact hj
              · cases hj
            have htl : ((matCells pl).take T).length = T := by rw [List.length_take, matCells, List.length_map, HPLL.out]; omega
            have step2 : ∀ (v' : Value) (w4 : World), w3.grownBy w4 none → Reads w4 1 (.slice A1 (I - T) c1) (I - T) ((matCells pl).drop T) ∧ w3.heap.size ≤ w4.heap.size := by
              intro v' w4 hg
              exact ⟨Reads.of_own (ownsRow_kept hv3 (only_grown (S := fun _ => False) (Only.refl _ _) hg (fun k hk => by cases hk)) (fun _ h => h.elim)) HONE.out, hg.size⟩
            have step3 : ∀ (v' : Value) (w4 : World) (A5 : Option Addr) (c5 : Nat) (w5 : World), w3.grownBy w4 none → w4.ownsRow w3.heap.size 22 1 v' (T + 1) ((matCells pl).take T ++ [.slice x.a x.n x.c]) → w5.ownsRow w3.heap.size 22 1 (.slice A5 (T + 1 + (I - T)) c5) (T + 1 + (I - T)) (((matCells pl).take T ++ [.slice x.a x.n x.c]) ++ (matCells pl).drop T) → w4.grownBy w5 v'.ownBlock →
                w5.ownsRow w.heap.size 22 1 (.slice A5 (T + 1 + (I - T)) c5) (I + 1) (matCells (pl.take T ++ [x] ++ pl.drop T)) ∧ Below w.heap.size w w5 := by
              intro v' w4 A5 c5 w5 hg4 h4 h5 hg5
              rw [HWH.out] at h5
              have ho4 : Only (fun _ => False) w3 w4 := only_grown (Only.refl _ _) hg4 (fun k hk => by cases hk)
              have ho5 : Only (fun k => v'.ownBlock = some k) w4 w5 := only_grown (Only.refl _ _) hg5 (fun k hk => .inl hk)
              have hb4 := bl_only hb3 ho4 (fun _ h => h.elim)
              have hcount : T + 1 + (I - T) = I + 1 := by omega
              refine ⟨?_, bl_only hb4 ho5 (fun k hk => Nat.le_trans hb3.size (own_block h4 hk))⟩
              have := ownsRow_base h5 hb3.size
              rwa [hcount] at this ⊢
            have STEP2 := Lib.hid step2
            have STEP3 := Lib.hid step3
            have HOLD3 := Lib.hid hold3
            have HN3 := Lib.hid hn3
            clear step2 step3 hold3 hn3 hrow3 hv3 hb3 hv2 hrow2 hb2
            subst hw3
            go_region_law (first
              | (refine step_append_grows (by rfl) _ _ _ (by rfl) 22 i0 _ 1 24 Try.underlying34 hi hz0 hz1 hz2 rfl (by decide) (some (⟨G, 0, none⟩ : Addr)) T T ((matCells pl).take T) (by rfl) (fun e => by cases e) (by rw [htl, Nat.mul_one]) HOLD3.out ⟨w2.heap.size, 0, none⟩ 1 1 [.slice x.a x.n x.c] (by rfl) (by rfl) HN3.out (by simp [Value.oneCell']) (by omega) (by simp only [maxLen]; omega) (by omega) ?_; intro v4 w4 hown4 hgr4; obtain ⟨hrd4, hsz4⟩ := STEP2.out v4 w4 hgr4)
              | (refine step_append_reads (by rfl) _ _ _ _ (by rfl) i0 _ 24 Try.underlying34 hi hz0 hz1 hz2 rfl _ v4 (T + 1) _ (by rfl) hown4 _ (I - T) _ (by rfl) hrd4 (by simp only [maxLen]; omega) (by omega) hsz4 ?_; intro A5 c5 w5 hown5 hgr5; obtain ⟨hfin5, hb5⟩ := STEP3.out v4 w4 A5 c5 w5 hgr4 hown4 hown5 hgr5))
            all_goals
              have HFIN := Lib.hid hfin5
              clear hfin5
              go_wp2_with fail
              go_roundw
              case rel => exact ⟨I + 1, pl.take T ++ [x] ++ pl.drop T, hlt, by simp, (fun h => by omega), HFIN.out, (by rw [HTK.out]; exact put_perm HPERM.out T x), inOrder_put HORD.out (by rw [HPLL.out]; omega) (HDROP.out) (HSTOP.out), hb5⟩
              case measure => simp [intOf]; omega
          · have hJ0 : 0 < T := by omega
            have hM1 : (T : Int) - 1 = (M : Nat) := by omega
            have iM : (M : Int) < I := by omega
            obtain ⟨y, hy⟩ : ∃ y, pl[M]? = some y := ⟨_, List.getElem?_eq_getElem (by rw [HPLL.out]; omega)⟩
            have hym := List.mem_of_getElem? hy
            obtain ⟨G', e, _, _, _, hcs⟩ := own_some HROW.out (by omega)
            injection e with e
            injection e with e _ _
            subst e
            have cy : wr.cell? ⟨G, M, none⟩ = some (.slice y.a y.n y.c) := hcs _ _ (by unfold matCells; rw [List.getElem?_map, hy]; rfl)
            obtain ⟨Z, hZ⟩ : ∃ Z, cmpM y x = Z := ⟨_, rfl⟩
            have HCALL := Lib.hid fun nq => rcmp_ok (HPL.out y hym) HXOK.out hZ (wr.drewN nq) (bl_drewN hb nq)
            have HZ := Lib.hid hZ
            have HY := Lib.hid hy
            have hMT := Lib.hid hM
            clear hcs hy hym hZ hM hb
            by_cases hpos : 0 < Z
            · go_wp2_with fail
              go_quiet ((go_at_call 19; exact Drawn.quiet (HCALL.out _)))
              go_wp2_with fail
              have hd2 : ∀ q ∈ pl.drop M, 0 < cmpM q x := fun q hq => by
                have hMl := (List.getElem?_eq_some_iff.1 HY.out)
                obtain ⟨h1, h2⟩ := hMl
                rw [List.drop_eq_getElem_cons h1, h2, ← hMT.out] at hq
                rcases List.mem_cons.1 hq with rfl | hq
                · rw [HZ.out]; exact hpos
                · exact HDROP.out q hq
              exact ⟨⟨M, by omega, by simp, hd2, HROW.out, bl_drewN HB.out _⟩, by simp [intOf]; omega⟩
            · have hstop : ∀ M y, T = M + 1 → pl[M]? = some y → cmpM y x ≤ 0 := fun M' y' e h => by
                have := hMT.out
                obtain rfl : M = M' := by omega
                rw [HY.out] at h
                injection h with h
                rw [← h, HZ.out]; omega
              have HSTOP := Lib.hid hstop
              clear hstop
              by_cases hco : co = T
              · have hTI : T = I := by omega
                subst hTI
                subst hco
                go_wp2_with fail
                go_quiet ((go_at_call 19; exact Drawn.quiet (HCALL.out _)))
                obtain ⟨W0, hW0⟩ : ∃ W0, W0 = wr.drewN nq := ⟨_, rfl⟩
                have hb0 : Below w.heap.size w W0 := by rw [hW0]; exact bl_drewN HB.out nq
                have hrow0 : W0.ownsRow w.heap.size 22 1 (.slice (some ⟨G, 0, none⟩) co co) co (matCells pl) := by rw [hW0]; exact HROW.out
                simp only [← hW0]
                clear hW0
                have hbE := bl_alloc hb0 (.cells #[] 22)
                have hown0 : (W0.alloc (.cells #[] 22)).ownsRow W0.heap.size 22 1 (.slice (some ⟨W0.heap.size, 0, none⟩) 0 0) 0 [] := ⟨rfl, .inr ⟨_, 0, #[], rfl, Nat.le_refl _, alloc_new _ _, Nat.le_refl _, Nat.zero_le _, rfl, rfl⟩⟩
                have hr1 : Reads (W0.alloc (.cells #[] 22)) 1 (.slice (some ⟨G, 0, none⟩) 0 0) 0 (([] : List Value)) := by
                  have := Reads.tail (hrow0.alloc (.cells #[] 22)) (fun u hu => matCells_one hu) co (by omega)
                  rw [if_pos rfl, List.drop_of_length_le (by rw [matCells, List.length_map, HPLL.out]; omega), Nat.sub_self] at this
                  exact this
                have hlen1 : (([] : List Value)).length = 0 := by have := hr1.len; omega
                have hone1 : ∀ u ∈ (([] : List Value)), u.oneCell' = true := hr1.one
                have hwhole : ((matCells pl).take co ++ [.slice x.a x.n x.c]) ++ ([] : List Value) = matCells (pl.take co ++ [x] ++ pl.drop co) := by
                  rw [matCells_append, matCells_append]
                  unfold matCells
                  rw [List.map_take, List.map_drop]
                  first | rfl | (congr 1; symm; rw [List.drop_of_length_le]; rw [List.length_map, HPLL.out]; omega)
                have step1 : ∀ (v1 : Value) (w2 : World), w2.ownsRow W0.heap.size 22 1 v1 (0 + 0) ([] ++ ([] : List Value)) → (W0.alloc (.cells #[] 22)).grownBy w2 (Value.slice (some ⟨W0.heap.size, 0, none⟩) 0 0).ownBlock →
                    ∃ A1 c1, v1 = .slice A1 0 c1 ∧ w2.ownsRow w.heap.size 22 1 (.slice A1 0 c1) 0 (([] : List Value)) ∧ w2.ownsRow w.heap.size 22 1 (.slice (some ⟨G, 0, none⟩) co co) co (matCells pl) ∧ Below w.heap.size w w2 := by
                  intro v1 w2 h1 hg
                  rw [Nat.zero_add, List.nil_append] at h1
                  have ho2 : Only (fun k => k = W0.heap.size) (W0.alloc (.cells #[] 22)) w2 := only_grown (Only.refl _ _) hg (fun k hk => .inl (by injection hk with hk; exact hk.symm))
                  obtain ⟨A1, c1, rfl⟩ := own_form h1
                  refine ⟨A1, c1, rfl, ownsRow_base h1 hb0.size, ownsRow_kept (hrow0.alloc _) ho2 ?_, bl_only hbE ho2 (by rintro k rfl; exact hb0.size)⟩
                  rintro k rfl hk
                  exact absurd (own_lt hrow0 hk) (Nat.lt_irrefl _)
                have hz0s := hbE.size
                have hz0t : W0.heap.size ≤ (W0.alloc (.cells #[] 22)).heap.size := by simp
                have HOWN0 := Lib.hid hown0
                have HR1 := Lib.hid hr1
                have STEP1 := Lib.hid step1
                have HONE := Lib.hid hone1
                have HLEN := Lib.hid hlen1
                have HWH := Lib.hid hwhole
                clear hown0 hr1 step1 hbE hb0 hrow0 hone1 hlen1 hwhole
                have iT : (co : Int) ≤ co := by omega
                go_wp2_with (at_builtin; refine wpList_append_reads _ rfl (.tmp 32) (.tmp 35) 34 rfl W0.heap.size 22 i0 _ 1 24 Try.underlying34 hi hz0 hz1 hz2 rfl (by decide) _ 0 [] rfl HOWN0.out _ 0 _ rfl HR1.out (by simp only [maxLen]; omega) (by omega) hz0t ?_; intro v1 w2 hown1 hgr1; obtain ⟨A1, c1, rfl, hv2, hrow2, hb2⟩ := STEP1.out v1 w2 hown1 hgr1)
                have cx2 := HCM.out _ hb2
                obtain ⟨w3, hw3⟩ : ∃ w3, w3 = w2.drew.alloc (.cells #[.slice x.a x.n x.c] 22) := ⟨_, rfl⟩
                have hrow3 : w3.ownsRow w.heap.size 22 1 (.slice (some ⟨G, 0, none⟩) co co) co (matCells pl) := by rw [hw3]; exact hrow2.alloc (.cells #[.slice x.a x.n x.c] 22)
                have hv3 : w3.ownsRow w.heap.size 22 1 (.slice A1 0 c1) 0 (([] : List Value)) := by rw [hw3]; exact hv2.alloc (.cells #[.slice x.a x.n x.c] 22)
                have hb3 : Below w.heap.size w w3 := by rw [hw3]; exact bl_alloc (bl_drew hb2) (.cells #[.slice x.a x.n x.c] 22)
                have hn3 : ∀ j u, [Value.slice x.a x.n x.c][j]? = some u → w3.cell? ((⟨w2.heap.size, 0, none⟩ : Addr).add j) = some u := by
                  rw [hw3]
                  exact World.news_of_block (cs := #[.slice x.a x.n x.c]) (t := 22) (fr := (0, 0)) (alloc_new w2.drew (.cells #[.slice x.a x.n x.c] 22))
                have hold3 : ∀ b, (some (⟨G, 0, none⟩ : Addr) : Option Addr) = some b → ∀ j u, ((matCells pl).take co)[j]? = some u → w3.cell? (b.add j) = some u := by
                  intro b e j u hj
                  injection e with e
                  subst e
                  refine hrow3.cells (g := G) rfl j u ?_
                  rw [List.getElem?_take] at hj
                  split at hj
                  · exact hj
                  · cases hj
                have htl : ((matCells pl).take co).length = co := by rw [List.length_take, matCells, List.length_map, HPLL.out]; omega
                have step2 : ∀ (v' : Value) (w4 : World), w3.grownBy w4 none → Reads w4 1 (.slice A1 0 c1) 0 (([] : List Value)) ∧ w3.heap.size ≤ w4.heap.size := by
                  intro v' w4 hg
                  exact ⟨Reads.of_own (ownsRow_kept hv3 (only_grown (S := fun _ => False) (Only.refl _ _) hg (fun k hk => by cases hk)) (fun _ h => h.elim)) HONE.out, hg.size⟩
                have step3 : ∀ (v' : Value) (w4 : World) (A5 : Option Addr) (c5 : Nat) (w5 : World), w3.grownBy w4 none → w4.ownsRow w3.heap.size 22 1 v' (co + 1) ((matCells pl).take co ++ [.slice x.a x.n x.c]) → w5.ownsRow w3.heap.size 22 1 (.slice A5 (co + 1 + 0) c5) (co + 1 + 0) (((matCells pl).take co ++ [.slice x.a x.n x.c]) ++ ([] : List Value)) → w4.grownBy w5 v'.ownBlock →
                    w5.ownsRow w.heap.size 22 1 (.slice A5 (co + 1 + 0) c5) (co + 1) (matCells (pl.take co ++ [x] ++ pl.drop co)) ∧ Below w.heap.size w w5 := by
                  intro v' w4 A5 c5 w5 hg4 h4 h5 hg5
                  rw [HWH.out] at h5
                  have ho4 : Only (fun _ => False) w3 w4 := only_grown (Only.refl _ _) hg4 (fun k hk => by cases hk)
                  have ho5 : Only (fun k => v'.ownBlock = some k) w4 w5 := only_grown (Only.refl _ _) hg5 (fun k hk => .inl hk)
                  have hb4 := bl_only hb3 ho4 (fun _ h => h.elim)
                  have hcount : co + 1 + 0 = co + 1 := by omega
                  refine ⟨?_, bl_only hb4 ho5 (fun k hk => Nat.le_trans hb3.size (own_block h4 hk))⟩
                  have := ownsRow_base h5 hb3.size
                  rwa [hcount] at this ⊢
                have STEP2 := Lib.hid step2
                have STEP3 := Lib.hid step3
                have HOLD3 := Lib.hid hold3
                have HN3 := Lib.hid hn3
                clear step2 step3 hold3 hn3 hrow3 hv3 hb3 hv2 hrow2 hb2
                subst hw3
                go_region_law (first
                  | (refine step_append_grows (by rfl) _ _ _ (by rfl) 22 i0 _ 1 24 Try.underlying34 hi hz0 hz1 hz2 rfl (by decide) (some (⟨G, 0, none⟩ : Addr)) co co ((matCells pl).take co) (by rfl) (fun e => by cases e) (by rw [htl, Nat.mul_one]) HOLD3.out ⟨w2.heap.size, 0, none⟩ 1 1 [.slice x.a x.n x.c] (by rfl) (by rfl) HN3.out (by simp [Value.oneCell']) (by omega) (by simp only [maxLen]; omega) (by omega) ?_; intro v4 w4 hown4 hgr4; obtain ⟨hrd4, hsz4⟩ := STEP2.out v4 w4 hgr4)
                  | (refine step_append_reads (by rfl) _ _ _ _ (by rfl) i0 _ 24 Try.underlying34 hi hz0 hz1 hz2 rfl _ v4 (co + 1) _ (by rfl) hown4 _ 0 _ (by rfl) hrd4 (by simp only [maxLen]; omega) (by omega) hsz4 ?_; intro A5 c5 w5 hown5 hgr5; obtain ⟨hfin5, hb5⟩ := STEP3.out v4 w4 A5 c5 w5 hgr4 hown4 hown5 hgr5))
                all_goals
                  have HFIN := Lib.hid hfin5
                  clear hfin5
                  go_wp2_with fail
                  go_roundw
                  case rel => exact ⟨co + 1, pl.take co ++ [x] ++ pl.drop co, hlt, by simp, (fun h => by omega), HFIN.out, (by rw [HTK.out]; exact put_perm HPERM.out co x), inOrder_put HORD.out (by rw [HPLL.out]; omega) (HDROP.out) (HSTOP.out), hb5⟩
                  case measure => simp [intOf]; omega
              · go_wp2_with fail
                go_quiet ((go_at_call 19; exact Drawn.quiet (HCALL.out _)))
                obtain ⟨W0, hW0⟩ : ∃ W0, W0 = wr.drewN nq := ⟨_, rfl⟩
                have hb0 : Below w.heap.size w W0 := by rw [hW0]; exact bl_drewN HB.out nq
                have hrow0 : W0.ownsRow w.heap.size 22 1 (.slice (some ⟨G, 0, none⟩) I co) I (matCells pl) := by rw [hW0]; exact HROW.out
                simp only [← hW0]
                clear hW0
                have hbE := bl_alloc hb0 (.cells #[] 22)
                have hown0 : (W0.alloc (.cells #[] 22)).ownsRow W0.heap.size 22 1 (.slice (some ⟨W0.heap.size, 0, none⟩) 0 0) 0 [] := ⟨rfl, .inr ⟨_, 0, #[], rfl, Nat.le_refl _, alloc_new _ _, Nat.le_refl _, Nat.zero_le _, rfl, rfl⟩⟩
                have hr1 : Reads (W0.alloc (.cells #[] 22)) 1 (.slice (some ⟨G, T, none⟩) (I - T) (co - T)) (I - T) ((matCells pl).drop T) := by
                  have := Reads.tail (hrow0.alloc (.cells #[] 22)) (fun u hu => matCells_one hu) T (by omega)
                  rw [if_neg hco] at this
                  simpa [Addr.add_lit] using this
                have hlen1 : ((matCells pl).drop T).length = (I - T) := by have := hr1.len; omega
                have hone1 : ∀ u ∈ ((matCells pl).drop T), u.oneCell' = true := hr1.one
                have hwhole : ((matCells pl).take T ++ [.slice x.a x.n x.c]) ++ (matCells pl).drop T = matCells (pl.take T ++ [x] ++ pl.drop T) := by
                  rw [matCells_append, matCells_append]
                  unfold matCells
                  rw [List.map_take, List.map_drop]
                  first | rfl | (congr 1; symm; rw [List.drop_of_length_le]; rw [List.length_map, HPLL.out]; omega)
                have step1 : ∀ (v1 : Value) (w2 : World), w2.ownsRow W0.heap.size 22 1 v1 (0 + (I - T)) ([] ++ (matCells pl).drop T) → (W0.alloc (.cells #[] 22)).grownBy w2 (Value.slice (some ⟨W0.heap.size, 0, none⟩) 0 0).ownBlock →
                    ∃ A1 c1, v1 = .slice A1 (I - T) c1 ∧ w2.ownsRow w.heap.size 22 1 (.slice A1 (I - T) c1) (I - T) ((matCells pl).drop T) ∧ w2.ownsRow w.heap.size 22 1 (.slice (some ⟨G, 0, none⟩) I co) I (matCells pl) ∧ Below w.heap.size w w2 := by
                  intro v1 w2 h1 hg
                  rw [Nat.zero_add, List.nil_append] at h1
                  have ho2 : Only (fun k => k = W0.heap.size) (W0.alloc (.cells #[] 22)) w2 := only_grown (Only.refl _ _) hg (fun k hk => .inl (by injection hk with hk; exact hk.symm))
                  obtain ⟨A1, c1, rfl⟩ := own_form h1
                  refine ⟨A1, c1, rfl, ownsRow_base h1 hb0.size, ownsRow_kept (hrow0.alloc _) ho2 ?_, bl_only hbE ho2 (by rintro k rfl; exact hb0.size)⟩
                  rintro k rfl hk
                  exact absurd (own_lt hrow0 hk) (Nat.lt_irrefl _)
                have hz0s := hbE.size
                have hz0t : W0.heap.size ≤ (W0.alloc (.cells #[] 22)).heap.size := by simp
                have HOWN0 := Lib.hid hown0
                have HR1 := Lib.hid hr1
                have STEP1 := Lib.hid step1
                have HONE := Lib.hid hone1
                have HLEN := Lib.hid hlen1
                have HWH := Lib.hid hwhole
                clear hown0 hr1 step1 hbE hb0 hrow0 hone1 hlen1 hwhole
                have iT : (T : Int) ≤ I := by omega
                have iT2 : (T : Int) ≤ co := by omega
                go_wp2_with (at_builtin; refine wpList_append_reads _ rfl (.tmp 32) (.tmp 35) 34 rfl W0.heap.size 22 i0 _ 1 24 Try.underlying34 hi hz0 hz1 hz2 rfl (by decide) _ 0 [] rfl HOWN0.out _ (I - T) _ rfl HR1.out (by simp only [maxLen]; omega) (by omega) hz0t ?_; intro v1 w2 hown1 hgr1; obtain ⟨A1, c1, rfl, hv2, hrow2, hb2⟩ := STEP1.out v1 w2 hown1 hgr1)
                have cx2 := HCM.out _ hb2
                obtain ⟨w3, hw3⟩ : ∃ w3, w3 = w2.drew.alloc (.cells #[.slice x.a x.n x.c] 22) := ⟨_, rfl⟩
                have hrow3 : w3.ownsRow w.heap.size 22 1 (.slice (some ⟨G, 0, none⟩) I co) I (matCells pl) := by rw [hw3]; exact hrow2.alloc (.cells #[.slice x.a x.n x.c] 22)
                have hv3 : w3.ownsRow w.heap.size 22 1 (.slice A1 (I - T) c1) (I - T) ((matCells pl).drop T) := by rw [hw3]; exact hv2.alloc (.cells #[.slice x.a x.n x.c] 22)
                have hb3 : Below w.heap.size w w3 := by rw [hw3]; exact bl_alloc (bl_drew hb2) (.cells #[.slice x.a x.n x.c] 22)
                have hn3 : ∀ j u, [Value.slice x.a x.n x.c][j]? = some u → w3.cell? ((⟨w2.heap.size, 0, none⟩ : Addr).add j) = some u := by
                  rw [hw3]
                  exact World.news_of_block (cs := #[.slice x.a x.n x.c]) (t := 22) (fr := (0, 0)) (alloc_new w2.drew (.cells #[.slice x.a x.n x.c] 22))
                have hold3 : ∀ b, (some (⟨G, 0, none⟩ : Addr) : Option Addr) = some b → ∀ j u, ((matCells pl).take T)[j]? = some u → w3.cell? (b.add j) = some u := by
                  intro b e j u hj
                  injection e with e
                  subst e
                  refine hrow3.cells (g := G) rfl j u ?_
                  rw [List.getElem?_take] at hj
                  split at hj
                  · exact hj
                  · cases hj
                have htl : ((matCells pl).take T).length = T := by rw [List.length_take, matCells, List.length_map, HPLL.out]; omega
                have step2 : ∀ (v' : Value) (w4 : World), w3.grownBy w4 none → Reads w4 1 (.slice A1 (I - T) c1) (I - T) ((matCells pl).drop T) ∧ w3.heap.size ≤ w4.heap.size := by
                  intro v' w4 hg
                  exact ⟨Reads.of_own (ownsRow_kept hv3 (only_grown (S := fun _ => False) (Only.refl _ _) hg (fun k hk => by cases hk)) (fun _ h => h.elim)) HONE.out, hg.size⟩
                have step3 : ∀ (v' : Value) (w4 : World) (A5 : Option Addr) (c5 : Nat) (w5 : World), w3.grownBy w4 none → w4.ownsRow w3.heap.size 22 1 v' (T + 1) ((matCells pl).take T ++ [.slice x.a x.n x.c]) → w5.ownsRow w3.heap.size 22 1 (.slice A5 (T + 1 + (I - T)) c5) (T + 1 + (I - T)) (((matCells pl).take T ++ [.slice x.a x.n x.c]) ++ (matCells pl).drop T) → w4.grownBy w5 v'.ownBlock →
                    w5.ownsRow w.heap.size 22 1 (.slice A5 (T + 1 + (I - T)) c5) (I + 1) (matCells (pl.take T ++ [x] ++ pl.drop T)) ∧ Below w.heap.size w w5 := by
                  intro v' w4 A5 c5 w5 hg4 h4 h5 hg5
                  rw [HWH.out] at h5
                  have ho4 : Only (fun _ => False) w3 w4 := only_grown (Only.refl _ _) hg4 (fun k hk => by cases hk)
                  have ho5 : Only (fun k => v'.ownBlock = some k) w4 w5 := only_grown (Only.refl _ _) hg5 (fun k hk => .inl hk)
                  have hb4 := bl_only hb3 ho4 (fun _ h => h.elim)
                  have hcount : T + 1 + (I - T) = I + 1 := by omega
                  refine ⟨?_, bl_only hb4 ho5 (fun k hk => Nat.le_trans hb3.size (own_block h4 hk))⟩
                  have := ownsRow_base h5 hb3.size
                  rwa [hcount] at this ⊢
                have STEP2 := Lib.hid step2
                have STEP3 := Lib.hid step3
                have HOLD3 := Lib.hid hold3
                have HN3 := Lib.hid hn3
                clear step2 step3 hold3 hn3 hrow3 hv3 hb3 hv2 hrow2 hb2
                subst hw3
                go_region_law (first
                  | (refine step_append_grows (by rfl) _ _ _ (by rfl) 22 i0 _ 1 24 Try.underlying34 hi hz0 hz1 hz2 rfl (by decide) (some (⟨G, 0, none⟩ : Addr)) T T ((matCells pl).take T) (by rfl) (fun e => by cases e) (by rw [htl, Nat.mul_one]) HOLD3.out ⟨w2.heap.size, 0, none⟩ 1 1 [.slice x.a x.n x.c] (by rfl) (by rfl) HN3.out (by simp [Value.oneCell']) (by omega) (by simp only [maxLen]; omega) (by omega) ?_; intro v4 w4 hown4 hgr4; obtain ⟨hrd4, hsz4⟩ := STEP2.out v4 w4 hgr4)
                  | (refine step_append_reads (by rfl) _ _ _ _ (by rfl) i0 _ 24 Try.underlying34 hi hz0 hz1 hz2 rfl _ v4 (T + 1) _ (by rfl) hown4 _ (I - T) _ (by rfl) hrd4 (by simp only [maxLen]; omega) (by omega) hsz4 ?_; intro A5 c5 w5 hown5 hgr5; obtain ⟨hfin5, hb5⟩ := STEP3.out v4 w4 A5 c5 w5 hgr4 hown4 hown5 hgr5))
                all_goals
                  have HFIN := Lib.hid hfin5
                  clear hfin5
                  go_wp2_with fail
                  go_roundw
                  case rel => exact ⟨I + 1, pl.take T ++ [x] ++ pl.drop T, hlt, by simp, (fun h => by omega), HFIN.out, (by rw [HTK.out]; exact put_perm HPERM.out T x), inOrder_put HORD.out (by rw [HPLL.out]; omega) (HDROP.out) (HSTOP.out), hb5⟩
                  case measure => simp [intOf]; omega
      · have hI00 : I = 0 := by omega
        have ho := hnil hI00
        subst ho
        have hrow : wr.ownsRow w.heap.size 22 1 (.slice none 0 0) 0 (matCells pl) := by rw [hI00] at hrow; exact hrow
        have HROW := Lib.hid hrow
        have HB := Lib.hid hb
        clear hnil hrow hb hI00
        go_wp2_with fail
        go_loopw [5] (fun t W => t = .int .i64 0 ∧ W = wr) (fun _ _ => 0)
        case atStart => exact ⟨rfl, rfl⟩
        case round =>
          obtain ⟨rfl, rfl⟩ := hrel
          go_wp2_with fail
          go_quiet (fail)
          obtain ⟨W0, hW0⟩ : ∃ W0, W0 = wr.drewN nq := ⟨_, rfl⟩
          have hb0 : Below w.heap.size w W0 := by rw [hW0]; exact bl_drewN HB.out nq
          have hrow0 : W0.ownsRow w.heap.size 22 1 (.slice none 0 0) 0 (matCells pl) := by rw [hW0]; exact HROW.out
          simp only [← hW0]
          clear hW0
          have hbE := bl_alloc hb0 (.cells #[] 22)
          have hown0 : (W0.alloc (.cells #[] 22)).ownsRow W0.heap.size 22 1 (.slice (some ⟨W0.heap.size, 0, none⟩) 0 0) 0 [] := ⟨rfl, .inr ⟨_, 0, #[], rfl, Nat.le_refl _, alloc_new _ _, Nat.le_refl _, Nat.zero_le _, rfl, rfl⟩⟩
          have hr1 : Reads (W0.alloc (.cells #[] 22)) 1 (.slice none 0 0) 0 (([] : List Value)) := by
            have := Reads.tail (hrow0.alloc (.cells #[] 22)) (fun u hu => matCells_one hu) 0 (by omega)
            have h0 : pl = [] := List.eq_nil_of_length_eq_zero (by rw [HPLL.out]; omega)
            subst h0
            simpa [matCells] using this
          have hlen1 : (([] : List Value)).length = 0 := by have := hr1.len; omega
          have hone1 : ∀ u ∈ (([] : List Value)), u.oneCell' = true := hr1.one
          have hwhole : ((matCells pl).take 0 ++ [.slice x.a x.n x.c]) ++ ([] : List Value) = matCells (pl.take 0 ++ [x] ++ pl.drop 0) := by
            rw [matCells_append, matCells_append]
            unfold matCells
            rw [List.map_take, List.map_drop]
            first | rfl | (congr 1; symm; rw [List.drop_of_length_le]; rw [List.length_map, HPLL.out]; omega)
          have step1 : ∀ (v1 : Value) (w2 : World), w2.ownsRow W0.heap.size 22 1 v1 (0 + 0) ([] ++ ([] : List Value)) → (W0.alloc (.cells #[] 22)).grownBy w2 (Value.slice (some ⟨W0.heap.size, 0, none⟩) 0 0).ownBlock →
              ∃ A1 c1, v1 = .slice A1 0 c1 ∧ w2.ownsRow w.heap.size 22 1 (.slice A1 0 c1) 0 (([] : List Value)) ∧ w2.ownsRow w.heap.size 22 1 (.slice none 0 0) 0 (matCells pl) ∧ Below w.heap.size w w2 := by
            intro v1 w2 h1 hg
            rw [Nat.zero_add, List.nil_append] at h1
            have ho2 : Only (fun k => k = W0.heap.size) (W0.alloc (.cells #[] 22)) w2 := only_grown (Only.refl _ _) hg (fun k hk => .inl (by injection hk with hk; exact hk.symm))
            obtain ⟨A1, c1, rfl⟩ := own_form h1
            refine ⟨A1, c1, rfl, ownsRow_base h1 hb0.size, ownsRow_kept (hrow0.alloc _) ho2 ?_, bl_only hbE ho2 (by rintro k rfl; exact hb0.size)⟩
            rintro k rfl hk
            exact absurd (own_lt hrow0 hk) (Nat.lt_irrefl _)
          have hz0s := hbE.size
          have hz0t : W0.heap.size ≤ (W0.alloc (.cells #[] 22)).heap.size := by simp
          have HOWN0 := Lib.hid hown0
          have HR1 := Lib.hid hr1
          have STEP1 := Lib.hid step1
          have HONE := Lib.hid hone1
          have HLEN := Lib.hid hlen1
          have HWH := Lib.hid hwhole
          clear hown0 hr1 step1 hbE hb0 hrow0 hone1 hlen1 hwhole
          go_wp2_with (at_builtin; refine wpList_append_reads _ rfl (.tmp 32) (.tmp 35) 34 rfl W0.heap.size 22 i0 _ 1 24 Try.underlying34 hi hz0 hz1 hz2 rfl (by decide) _ 0 [] rfl HOWN0.out _ 0 _ rfl HR1.out (by simp only [maxLen]; omega) (by omega) hz0t ?_; intro v1 w2 hown1 hgr1; obtain ⟨A1, c1, rfl, hv2, hrow2, hb2⟩ := STEP1.out v1 w2 hown1 hgr1)
          have cx2 := HCM.out _ hb2
          obtain ⟨w3, hw3⟩ : ∃ w3, w3 = w2.drew.alloc (.cells #[.slice x.a x.n x.c] 22) := ⟨_, rfl⟩
          have hrow3 : w3.ownsRow w.heap.size 22 1 (.slice none 0 0) 0 (matCells pl) := by rw [hw3]; exact hrow2.alloc (.cells #[.slice x.a x.n x.c] 22)
          have hv3 : w3.ownsRow w.heap.size 22 1 (.slice A1 0 c1) 0 (([] : List Value)) := by rw [hw3]; exact hv2.alloc (.cells #[.slice x.a x.n x.c] 22)
          have hb3 : Below w.heap.size w w3 := by rw [hw3]; exact bl_alloc (bl_drew hb2) (.cells #[.slice x.a x.n x.c] 22)
          have hn3 : ∀ j u, [Value.slice x.a x.n x.c][j]? = some u → w3.cell? ((⟨w2.heap.size, 0, none⟩ : Addr).add j) = some u := by
            rw [hw3]
            exact World.news_of_block (cs := #[.slice x.a x.n x.c]) (t := 22) (fr := (0, 0)) (alloc_new w2.drew (.cells #[.slice x.a x.n x.c] 22))
          have hold3 : ∀ b, (none : Option Addr) = some b → ∀ j u, ((matCells pl).take 0)[j]? = some u → w3.cell? (b.add j) = some u := by
            intro b e j u hj
            cases e
          have htl : ((matCells pl).take 0).length = 0 := by rw [List.length_take, matCells, List.length_map, HPLL.out]; omega
          have step2 : ∀ (v' : Value) (w4 : World), w3.grownBy w4 none → Reads w4 1 (.slice A1 0 c1) 0 (([] : List Value)) ∧ w3.heap.size ≤ w4.heap.size := by
            intro v' w4 hg
            exact ⟨Reads.of_own (ownsRow_kept hv3 (only_grown (S := fun _ => False) (Only.refl _ _) hg (fun k hk => by cases hk)) (fun _ h => h.elim)) HONE.out, hg.size⟩
          have step3 : ∀ (v' : Value) (w4 : World) (A5 : Option Addr) (c5 : Nat) (w5 : World), w3.grownBy w4 none → w4.ownsRow w3.heap.size 22 1 v' (0 + 1) ((matCells pl).take 0 ++ [.slice x.a x.n x.c]) → w5.ownsRow w3.heap.size 22 1 (.slice A5 (0 + 1 + 0) c5) (0 + 1 + 0) (((matCells pl).take 0 ++ [.slice x.a x.n x.c]) ++ ([] : List Value)) → w4.grownBy w5 v'.ownBlock →
              w5.ownsRow w.heap.size 22 1 (.slice A5 (0 + 1 + 0) c5) (I + 1) (matCells (pl.take 0 ++ [x] ++ pl.drop 0)) ∧ Below w.heap.size w w5 := by
            intro v' w4 A5 c5 w5 hg4 h4 h5 hg5
            rw [HWH.out] at h5
            have ho4 : Only (fun _ => False) w3 w4 := only_grown (Only.refl _ _) hg4 (fun k hk => by cases hk)
            have ho5 : Only (fun k => v'.ownBlock = some k) w4 w5 := only_grown (Only.refl _ _) hg5 (fun k hk => .inl hk)
            have hb4 := bl_only hb3 ho4 (fun _ h => h.elim)
            have hcount : 0 + 1 + 0 = I + 1 := by omega
            refine ⟨?_, bl_only hb4 ho5 (fun k hk => Nat.le_trans hb3.size (own_block h4 hk))⟩
            have := ownsRow_base h5 hb3.size
            rwa [hcount] at this ⊢
          have STEP2 := Lib.hid step2
          have STEP3 := Lib.hid step3
          have HOLD3 := Lib.hid hold3
          have HN3 := Lib.hid hn3
          clear step2 step3 hold3 hn3 hrow3 hv3 hb3 hv2 hrow2 hb2
          subst hw3
          go_region_law (first
            | (refine step_append_grows (by rfl) _ _ _ (by rfl) 22 i0 _ 1 24 Try.underlying34 hi hz0 hz1 hz2 rfl (by decide) (none) 0 0 ((matCells pl).take 0) (by rfl) (fun _ => ⟨rfl, rfl⟩) (by rw [htl, Nat.mul_one]) HOLD3.out ⟨w2.heap.size, 0, none⟩ 1 1 [.slice x.a x.n x.c] (by rfl) (by rfl) HN3.out (by simp [Value.oneCell']) (by omega) (by simp only [maxLen]; omega) (by omega) ?_; intro v4 w4 hown4 hgr4; obtain ⟨hrd4, hsz4⟩ := STEP2.out v4 w4 hgr4)
            | (refine step_append_reads (by rfl) _ _ _ _ (by rfl) i0 _ 24 Try.underlying34 hi hz0 hz1 hz2 rfl _ v4 (0 + 1) _ (by rfl) hown4 _ 0 _ (by rfl) hrd4 (by simp only [maxLen]; omega) (by omega) hsz4 ?_; intro A5 c5 w5 hown5 hgr5; obtain ⟨hfin5, hb5⟩ := STEP3.out v4 w4 A5 c5 w5 hgr4 hown4 hown5 hgr5))
          all_goals
            have HFIN := Lib.hid hfin5
            clear hfin5
            go_wp2_with fail
            go_roundw
            case rel => exact ⟨I + 1, pl.take 0 ++ [x] ++ pl.drop 0, hlt, by simp, (fun h => by omega), HFIN.out, (by rw [HTK.out]; exact put_perm HPERM.out 0 x), inOrder_put HORD.out (by rw [HPLL.out]; omega) (fun q hq => by rw [List.drop_zero, List.eq_nil_of_length_eq_zero (show pl.length = 0 by rw [HPLL.out]; omega)] at hq; cases hq) (fun M y e => by cases e), hb5⟩
            case measure => simp [intOf]; omega
    · obtain rfl : I = n := by omega
      have iI : ¬ (I : Int) < I := by omega
      obtain ⟨Ar, cr, rfl⟩ := own_form hrow
      have hfin : Sorted w I ms (.returned (.slice Ar I cr)) wr := ⟨Ar, cr, pl, rfl, (by rw [List.take_of_length_le (by rw [H.out.len]; exact Nat.le_refl _)] at hperm; exact hperm), hord, .of_own hrow hn (fun m hm => (H.out.each m (List.mem_of_mem_take (hperm.subset hm))).below hb), hb⟩
      have HF := Lib.hid hfin
      clear hfin hrow hperm hord hnil hb
      go_wp2_with fail
      go_ret
      exact HF.out
end Go.Proofs.Ytmiijnemacgbiaa
