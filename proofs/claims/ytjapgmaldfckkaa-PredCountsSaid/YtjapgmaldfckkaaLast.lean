/- Chapter 5: PredLast: what is reckoned hangs on the last events, and on how many there are. -/
import Derived.Test.YtjapgmaldfckkaaAwake5
namespace Go.Proofs.Ytjapgmaldfckkaa
open Go.RowKit
set_option linter.unusedVariables false
set_option linter.unusedSimpArgs false

/-- Two rows of sets are alike at their ends. -/
structure Ends (ss tt : List (List Ev)) : Prop where
  len : tt.length = ss.length
  each : ∀ i, (tt.getD i []).length = (ss.getD i []).length ∧ (tt.getD i []).getLastD Ev.zero = (ss.getD i []).getLastD Ev.zero
theorem Ends.refl (ss : List (List Ev)) : Ends ss ss := ⟨rfl, fun _ => ⟨rfl, rfl⟩⟩
theorem Ends.setOf {ss tt : List (List Ev)} (h : Ends ss tt) (at_ : Int) : (setOf tt at_).length = (setOf ss at_).length ∧ lastOf tt at_ = lastOf ss at_ := by
  unfold lastOf Proofs.Ytjapgmaldfckkaa.setOf
  split
  · exact h.each _
  · exact ⟨rfl, rfl⟩
theorem Ends.one {ss tt : List (List Ev)} (h : Ends ss tt) (s : List Int × Bool) (c : CodeV) : evalOne tt s c = evalOne ss s c := by
  unfold evalOne
  rw [(h.setOf c.at_).1, (h.setOf c.at_).2]
theorem Ends.res {ss tt : List (List Ev)} (h : Ends ss tt) (cs : List CodeV) : evalRes tt cs = evalRes ss cs := by
  have : evalOne tt = evalOne ss := by funext s c; exact h.one s c
  unfold evalRes evalRun
  rw [this]
/-- One that is not the last of its set is another. -/
theorem Ends.put {ss tt : List (List Ev)} (h : Ends ss tt) {I K : Nat} (hI : I < tt.length) (hK : K + 1 < (tt.getD I []).length) (e : Ev) : Ends ss (tt.set I ((tt.getD I []).set K e)) := by
  refine ⟨by rw [List.length_set]; exact h.len, fun i => ?_⟩
  rw [← (h.each i).1, ← (h.each i).2]
  by_cases hi : i = I
  · subst hi
    rw [List.getD_eq_getElem?_getD (l := tt.set _ _), List.getElem?_set_self hI]
    simp only [Option.getD_some]
    refine ⟨by simp, ?_⟩
    generalize tt.getD i [] = s at *
    rw [List.getLastD_eq_getLast?, List.getLastD_eq_getLast?, List.getLast?_eq_getElem?, List.getLast?_eq_getElem?, List.length_set, List.getElem?_set_ne (by omega)]
  · rw [List.getD_eq_getElem?_getD (l := tt.set _ _), List.getElem?_set_ne (by omega), ← List.getD_eq_getElem?_getD]
    exact ⟨rfl, rfl⟩
theorem setsOf_small (l : List (List Int)) : (setsOf l).length ≤ 4 ∧ ∀ s ∈ setsOf l, s.length ≤ 3 := by
  refine ⟨by simp [setsOf]; omega, fun s hs => ?_⟩
  obtain ⟨zs, _, rfl⟩ := List.mem_map.1 hs
  simp [evsOf]
  omega
/-- Where a set's row lies. -/
theorem SetsOwn.parts {w : World} {lo : Nat} {A : Option Addr} {N c : Nat} {tt : List (List Ev)} {vs : List Value} (h : SetsOwn w lo (.slice A N c) tt vs) (hN : tt.length = N) {I : Nat} (hI : I < N) :
    ∃ b A2 c2, A = some ⟨b, 0, none⟩ ∧ vs.getD I undef = .slice A2 (tt.getD I []).length c2 ∧ w.cell? ⟨b, I, none⟩ = some (.slice A2 (tt.getD I []).length c2) ∧ w.ownsRow lo 30 6 (.slice A2 (tt.getD I []).length c2) (tt.getD I []).length (evCells (tt.getD I [])) := by
  subst hN
  obtain ⟨g, rfl, _, _, hg, hc⟩ := own_some h.row (by omega)
  have hvl : vs.length = tt.length := by have := h.row.1; omega
  have hin := h.inner I hI
  have hgi : vs[I]? = some (vs.getD I undef) := by rw [List.getD_eq_getElem?_getD, List.getElem?_eq_getElem (by omega)]; rfl
  have hcell := hc I _ hgi
  obtain ⟨A', c', he⟩ := own_form hin
  rw [he] at hin hcell
  exact ⟨g, A', c', rfl, he, hcell, hin⟩

/-- The six cells of an event, laid anew. -/
def World.setEv (w : World) (g i : Nat) (e : Ev) : World := ((((((w.setCell ⟨g, i, none⟩ (.int .i64 e.typ)).setCell ⟨g, i + 1, none⟩ (.int .i64 e.key)).setCell ⟨g, i + 2, none⟩ (.int .i64 e.a)).setCell ⟨g, i + 3, none⟩ (.int .i64 e.b)).setCell ⟨g, i + 4, none⟩ (.int .i64 e.c)).setCell ⟨g, i + 5, none⟩ (.int .i64 e.d))
theorem evCells_set (s : List Ev) (e : Ev) : ∀ K, K < s.length → ((((((evCells s).set (K * 6) (.int .i64 e.typ)).set (K * 6 + 1) (.int .i64 e.key)).set (K * 6 + 2) (.int .i64 e.a)).set (K * 6 + 3) (.int .i64 e.b)).set (K * 6 + 4) (.int .i64 e.c)).set (K * 6 + 5) (.int .i64 e.d) = evCells (s.set K e) := by
  induction s with
  | nil => intro K hK; simp at hK
  | cons c cs ih =>
    intro K hK
    cases K with
    | zero => simp [evCells, Ev.cells]
    | succ K =>
      have := ih K (by simpa using hK)
      simp only [evCells, List.flatMap_cons, List.set_cons_succ] at this ⊢
      rw [← this]
      have hl : c.cells.length = 6 := rfl
      simp only [show (K + 1) * 6 = K * 6 + 6 by omega]
      have hs : ∀ (r : List Value) (j : Nat) (x : Value), (c.cells ++ r).set (K * 6 + 6 + j) x = c.cells ++ r.set (K * 6 + j) x := fun r j x => by
        rw [List.set_append_right _ _ (by omega), hl, show K * 6 + 6 + j - 6 = K * 6 + j by omega]
      have hs0 : ∀ (r : List Value) (x : Value), (c.cells ++ r).set (K * 6 + 6) x = c.cells ++ r.set (K * 6) x := fun r x => hs r 0 x
      simp only [hs, hs0]
--Nat.add_sub_cancel, show K * 6 + 6 + 1 - 6 = K * 6 + 1 by omega, show K * 6 + 6 + 2 - 6 = K * 6 + 2 by omega, show K * 6 + 6 + 3 - 6 = K * 6 + 3 by omega, show K * 6 + 6 + 4 - 6 = K * 6 + 4 by omega, show K * 6 + 6 + 5 - 6 = K * 6 + 5 by omega]
theorem SetsOwn.put {w : World} {lo : Nat} {v : Value} {tt : List (List Ev)} {vs : List Value} (h : SetsOwn w lo v tt vs) {I K g M c2 : Nat} (hI : I < tt.length) (hM : (tt.getD I []).length = M) (hK : K < M) (e : Ev) (hv : vs.getD I undef = .slice (some ⟨g, 0, none⟩) M c2) :
    SetsOwn (World.setEv w g (K * 6) e) lo v (tt.set I ((tt.getD I []).set K e)) vs ∧ Only (fun b => b = g) w (World.setEv w g (K * 6) e) := by
  have ho : Only (fun b => b = g) w (World.setEv w g (K * 6) e) := by
    unfold World.setEv
    exact (((((((Only.refl (fun b => b = g) w).setCell _ _ (.inl rfl)).setCell _ _ (.inl rfl)).setCell _ _ (.inl rfl)).setCell _ _ (.inl rfl)).setCell _ _ (.inl rfl)).setCell _ _ (.inl rfl))
  refine ⟨⟨?_, fun i hi => ?_, fun i j k hij hj => ?_⟩, ho⟩
  · rw [List.length_set]
    refine ownsRow_kept h.row ho ?_
    rintro i rfl hk
    exact own_ne h.row (h.inner I hI) (by decide) hk (by rw [hv]; rfl)
  · rw [List.length_set] at hi
    by_cases hiI : i = I
    · subst hiI
      have hin := h.inner i hi
      rw [hv, hM] at hin
      rw [List.getD_eq_getElem?_getD (l := tt.set _ _), List.getElem?_set_self hI, hv]
      simp only [Option.getD_some, List.length_set, hM]
      rw [← evCells_set _ _ _ (by rw [hM]; exact hK)]
      exact ownsRow_set (ownsRow_set (ownsRow_set (ownsRow_set (ownsRow_set (ownsRow_set hin _ _) _ _) _ _) _ _) _ _) _ _
    · rw [List.getD_eq_getElem?_getD (l := tt.set _ _), List.getElem?_set_ne (by omega), ← List.getD_eq_getElem?_getD]
      refine ownsRow_kept (h.inner i hi) ho ?_
      rintro j rfl hk
      rcases Nat.lt_or_gt_of_ne hiI with h1 | h1
      · exact h.apart i I _ h1 hI hk (by rw [hv]; rfl)
      · exact h.apart I i _ h1 hi (by rw [hv]; rfl) hk
  · rw [List.length_set] at hj
    exact h.apart i j k hij hj
theorem getD_small {ss tt : List (List Ev)} (he : Ends ss tt) (hs : ∀ s ∈ ss, s.length ≤ 3) (I : Nat) : (tt.getD I []).length ≤ 3 := by
  rw [(he.each I).1, List.getD_eq_getElem?_getD]
  rcases Nat.lt_or_ge I ss.length with h | h
  · rw [List.getElem?_eq_getElem h]
    exact hs _ (List.getElem_mem h)
  · rw [List.getElem?_eq_none h]
    simp

theorem steps_below {w w' : World} {a : Option Addr} {n : Nat} {l : List StepV} (h : RowAt kStep 32 w a n l) (hb : Below w.heap.size w w') : RowAt kStep 32 w' a n l := RowAt.below (w := w) (w' := w') (fun cs x (h : kStep.R w cs x) => (show kStep.R w' cs x from h)) h hb
theorem rows_below {w w' : World} {a : Option Addr} {n : Nat} {l : List (List Int)} (h : RowAt (kSlice (kInt .i64) 8) 24 w a n l) (hb : Below w.heap.size w w') : RowAt (kSlice (kInt .i64) 8) 24 w' a n l := by
  refine RowAt.below (w' := w') (fun cs x h => ?_) h hb
  obtain ⟨a, len, cap, h1, h2, h3, h4, h5⟩ := h
  exact ⟨a, len, cap, h1, h2, h3, h4, RowAt.below (w := w) (w' := w') (fun cs x (h : (kInt .i64).R w cs x) => (show (kInt .i64).R w' cs x from h)) h5 hb⟩

set_option maxHeartbeats 4000000 in
set_option maxRecDepth 100000 in
theorem last_law (a : Option Addr) (n cap : Nat) (l : List StepV) (b : Option Addr) (m cap2 : Nat) (ns : List (List Int)) (other : Int) (w : World) (hl : RowAt kStep 32 w a n l) (hn : RowAt (kSlice (kInt .i64) 8) 24 w b m ns) (ho : -9223372036854775808 ≤ other ∧ other ≤ 9223372036854775807) :
    Calls Try.prog 3 #[.slice a n cap, .slice b m cap2, .int .i64 other] w fun e w' => e = .returned (.bool true) ∧ Below w.heap.size w w' := by
  have HL := Lib.hid hl
  have HN := Lib.hid hn
  have hsm := setsOf_small ns
  clear hl hn
  go_enter Try.func3, Try.ntmps3
  go_wp2_with fail
  refine (awake_any _).mono ?_
  rintro e w1 ⟨rfl, hb1⟩
  go_wp2_with fail
  refine (sets_any (rows_below HN.out hb1)).mono ?_
  rintro e w2 ⟨A, c, vs, rfl, hs, hb2⟩
  have hb02 := bl_then hb1 hb2
  go_wp2_with fail
  refine (sets_any (rows_below HN.out hb02)).mono ?_
  rintro e w3 ⟨A3, c3, vs3, rfl, ht, hb3⟩
  obtain ⟨ss, hss⟩ : ∃ ss, setsOf ns = ss := ⟨_, rfl⟩
  rw [hss] at hs ht hsm
  obtain ⟨N, hN⟩ : ∃ N, ss.length = N := ⟨_, rfl⟩
  simp only [hss, hN]
  rw [hN] at hs ht hsm
  have hends := Ends.refl ss
  have HS := Lib.hid hs
  have HT := Lib.hid ht
  have HSS := Lib.hid hss
  have hN4 := hsm.1
  have HSM := Lib.hid hsm.2
  have HNN := Lib.hid hN
  have HE := Lib.hid hends
  clear hs ht hss hsm hN hends
  go_wp2_with fail
  go_loopw [10] (fun i wr => ∃ I : Nat, I ≤ N ∧ i = .int .i64 I ∧ Below w2.heap.size w2 wr ∧ ∃ tt, SetsOwn wr w2.heap.size (.slice A3 N c3) tt vs3 ∧ Ends ss tt) (fun i _ => N - (intOf i).toNat)
  case atStart => exact ⟨0, Nat.zero_le _, rfl, hb3, ss, HT.out, HE.out⟩
  case round =>
    obtain ⟨I, hI, rfl, hbr, tt, hso, he⟩ := hrel
    have hlt := he.len
    have HSO := Lib.hid hso
    have HEN := Lib.hid he
    have HLT := Lib.hid hlt
    clear hso he hlt
    by_cases h1 : I < N
    · obtain ⟨wo, rfl⟩ : ∃ wo : World, wo = wr := ⟨_, rfl⟩
      go_wp2_with fail
      go_loopw [11] (fun k wr => ∃ K : Nat, K ≤ 1000 ∧ k = .int .i64 K ∧ Below w2.heap.size w2 wr ∧ ∃ tt, SetsOwn wr w2.heap.size (.slice A3 N c3) tt vs3 ∧ Ends ss tt) (fun k _ => 1000 - (intOf k).toNat)
      case atStart => exact ⟨0, by omega, rfl, hbr, tt, HSO.out, HEN.out⟩
      case round =>
        obtain ⟨K, hK, rfl, hbr2, tt2, hso2, he2⟩ := hrel
        have hlt2 : tt2.length = N := by rw [he2.len]; exact HNN.out
        obtain ⟨b2, A2, c2, rfl, hv2, x2, hown2⟩ := hso2.parts hlt2 h1
        obtain ⟨M, hM⟩ : ∃ M, (tt2.getD I []).length = M := ⟨_, rfl⟩
        have hM3 : M ≤ 3 := by rw [← hM]; exact getD_small he2 HSM.out I
        rw [hM] at x2 hv2 hown2
        have HSO2 := Lib.hid hso2
        have HE2 := Lib.hid he2
        have HLT2 := Lib.hid hlt2
        have HM := Lib.hid hM
        clear hso2 he2 hlt2 hM
        have s1 : IntKind.i64.wrap ((K : Int) + 1) = ((K + 1 : Nat) : Int) := (IntWalk.i64_in _ (by omega)).trans (by omega)
        by_cases h2 : K + 1 < M
        · obtain ⟨g, rfl, hg0, hg1, hg2, _⟩ := own_some hown2 (by omega)
          have hy := (EvsAt.of_own hown2).cells (by omega)
          obtain ⟨g', o', hgo, _, hy⟩ := hy
          injection hgo with hgo
          injection hgo with hg' ho' _
          subst hg' ho'
          have hy := hy K (by omega)
          obtain ⟨ex, hex⟩ : ∃ ex, (tt2.getD I []).getD K Ev.zero = ex := ⟨_, rfl⟩
          rw [hex] at hy
          clear hex
          have y0 := hy 0 (by omega)
          have y1 := hy 1 (by omega)
          have y2 := hy 2 (by omega)
          have y3 := hy 3 (by omega)
          have y4 := hy 4 (by omega)
          have y5 := hy 5 (by omega)
          obtain ⟨z0, z1, z2, z3, z4, z5⟩ := ex
          simp only [Ev.cells, List.getElem?_cons_zero, List.getElem?_cons_succ, Nat.add_zero, Nat.zero_add] at y0 y1 y2 y3 y4 y5
          clear hy
          have f0 := own_free hown2 (K * 6)
          have f1 := own_free hown2 (K * 6 + 1)
          have f2 := own_free hown2 (K * 6 + 2)
          have f3 := own_free hown2 (K * 6 + 3)
          have f4 := own_free hown2 (K * 6 + 4)
          have f5 := own_free hown2 (K * 6 + 5)
          go_wp2_with fail
          obtain ⟨hp, ho⟩ := HSO2.out.put (K := K) (by rw [HLT2.out]; exact h1) HM.out (by omega) ⟨3, 0, other, other, 7, other⟩ hv2
          have hb9 := bl_only hbr2 ho (by rintro i rfl; exact hg0)
          refine ⟨⟨K + 1, by omega, by simp, hb9, _, hp, HE2.out.put (by rw [HLT2.out]; exact h1) (by rw [HM.out]; exact h2) _⟩, by simp [intOf]; omega⟩
        · go_wp2_with fail
          exact ⟨⟨I + 1, by omega, by simp, hbr2, _, HSO2.out, HE2.out⟩, by simp [intOf]; omega⟩
    · go_wp2_with fail
      have hb22 := bl_then hb02 hbr
      refine (codes_any (steps_below HL.out hb22)).mono ?_
      rintro e w5 ⟨A5, c5, rfl, hown5, hb5⟩
      go_wp2_with fail
      have hcl : (codesOf l).length ≤ 100000 := by simp [codesOf]; omega
      refine (eval_any (CodesAt.of_own hown5) ((HS.out.at_ HNN.out.symm).below (bl_then hbr hb5)) hcl (by omega) (fun s hs => Nat.le_trans (HSM.out s hs) (by decide))).mono ?_
      rintro e w6 ⟨rfl, hb6⟩
      go_wp2_with fail
      have hb26 := bl_then (bl_then hb22 hb5) hb6
      refine (codes_any (steps_below HL.out hb26)).mono ?_
      rintro e w7 ⟨A7, c7, rfl, hown7, hb7⟩
      go_wp2_with fail
      refine (eval_any (CodesAt.of_own hown7) ((HSO.out.at_ (by rw [HLT.out, HNN.out])).below (bl_then (bl_then hb5 hb6) hb7)) hcl (by omega) (fun s hs => ?_)).mono ?_
      · obtain ⟨i, hi, rfl⟩ := List.getElem_of_mem hs
        have := getD_small HEN.out HSM.out i
        rw [List.getD_eq_getElem?_getD, List.getElem?_eq_getElem hi] at this
        exact Nat.le_trans this (by decide)
      rintro e w8 ⟨rfl, hb8⟩
      rw [HEN.out.res]
      go_wp2
      go_ret
      refine ⟨?_, bl_then (bl_then hb26 hb7) hb8⟩
      rfl
end Go.Proofs.Ytjapgmaldfckkaa
