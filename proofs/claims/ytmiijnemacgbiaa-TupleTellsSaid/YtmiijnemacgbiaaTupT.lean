/- Chapter 6: matches are put in order. -/
import Derived.Test.YtmiijnemacgbiaaTupS
namespace Go.Proofs.Ytmiijnemacgbiaa
open Go.RowKit
set_option linter.unusedVariables false
set_option linter.unusedSimpArgs false

/-! ### The plain law -/
def cmpM (x y : MatV) : Int := cmpLL x.num y.num
def InOrder (l : List MatV) : Prop := l.Pairwise fun a b => cmpM a b ≤ 0
theorem nil_or_snoc {α : Type} (l : List α) : l = [] ∨ ∃ p y, l = p ++ [y] := by
  rcases List.eq_nil_or_concat l with h | ⟨p, y, h⟩
  · exact .inl h
  · exact .inr ⟨p, y, by rw [h, List.concat_eq_append]⟩
/-- While one is let down: it stands ahead of mid, behind pre; the rest waits. -/
structure Down (ms l : List MatV) (I J : Nat) (pre : List MatV) (x : MatV) (mid suf : List MatV) : Prop where
  eq : l = pre ++ x :: (mid ++ suf)
  at_ : pre.length = J
  all : pre.length + mid.length = I
  sorted : InOrder (pre ++ mid)
  less : ∀ m ∈ mid, cmpM x m ≤ 0
  perm : l.Perm ms
theorem Down.start {ms l : List MatV} {I : Nat} (hI : I < l.length) (hs : InOrder (l.take I)) (hp : l.Perm ms) : ∃ pre x mid suf, Down ms l I I pre x mid suf := by
  refine ⟨l.take I, l[I], [], l.drop (I + 1), ?_, by rw [List.length_take]; omega, by rw [List.length_take]; simp; omega, by simpa using hs, (fun m hm => by cases hm), hp⟩
  rw [List.nil_append, List.getElem_cons_drop, List.take_append_drop]
theorem Down.step {ms l : List MatV} {I J : Nat} {pre : List MatV} {y x : MatV} {mid suf : List MatV} (h : Down ms l I J (pre ++ [y]) x mid suf) (hc : cmpM x y < 0) :
    Down ms (pre ++ x :: (y :: mid ++ suf)) I (J - 1) pre x (y :: mid) suf := by
  obtain ⟨h1, h2, h3, h4, h5, h6⟩ := h
  simp only [List.length_append, List.length_cons, List.length_nil] at h2 h3
  refine ⟨rfl, by omega, by simp only [List.length_cons]; omega, by simpa using h4, fun m hm => ?_, ?_⟩
  · rcases List.mem_cons.1 hm with rfl | hm
    · omega
    · exact h5 m hm
  · rw [h1] at h6
    refine List.Perm.trans ?_ h6
    rw [List.append_assoc]
    exact List.Perm.append_left pre (List.Perm.swap y x _)
theorem Down.stop {ms l : List MatV} {I J : Nat} {pre : List MatV} {x : MatV} {mid suf : List MatV} (h : Down ms l I J pre x mid suf) (hc : ∀ p y, pre = p ++ [y] → ¬ cmpM x y < 0) : InOrder (l.take (I + 1)) := by
  obtain ⟨h1, h2, h3, h4, h5, h6⟩ := h
  have ho := cmpLL_ord
  have e : l.take (I + 1) = pre ++ x :: mid := by
    rw [h1, ← List.cons_append, ← List.append_assoc, List.take_append_of_le_length (by simp; omega), List.take_of_length_le (by simp; omega)]
  rw [e]
  unfold InOrder at *
  rw [List.pairwise_append] at h4 ⊢
  obtain ⟨g1, g2, g3⟩ := h4
  have hpx : ∀ p ∈ pre, cmpM p x ≤ 0 := by
    rcases nil_or_snoc pre with rfl | ⟨q, y, rfl⟩
    · intro p hp; cases hp
    · have hy := hc q y rfl
      have hyx : cmpM y x ≤ 0 := by have := ho.anti x.num y.num; unfold cmpM at *; omega
      intro p hp
      rcases List.mem_append.1 hp with hp | hp
      · rw [List.pairwise_append] at g1
        exact ho.le _ _ _ (g1.2.2 p hp y (by simp)) hyx
      · rw [List.mem_singleton.1 hp]; exact hyx
  refine ⟨g1, List.pairwise_cons.2 ⟨h5, g2⟩, fun a ha b hb => ?_⟩
  rcases List.mem_cons.1 hb with rfl | hb
  · exact hpx a ha
  · exact g3 a ha b hb
theorem swap_cells (pre rest : List MatV) (y x : MatV) : ((matCells (pre ++ y :: x :: rest)).set (pre.length + 1) (.slice y.a y.n y.c)).set pre.length (.slice x.a x.n x.c) = matCells (pre ++ x :: y :: rest) := by
  have hl : (pre.map fun m : MatV => Value.slice m.a m.n m.c).length = pre.length := List.length_map ..
  unfold matCells
  simp only [List.map_append, List.map_cons]
  rw [List.set_append_right _ _ (by omega), List.set_append_right _ _ (by omega), hl]
  simp
/-! ### The walk -/
def SortOut (w0 : World) (A : Option Addr) (n c : Nat) (ms : List MatV) (e : Ending) (w' : World) : Prop := e = .returned (.tuple #[]) ∧ ∃ l, l.Perm ms ∧ InOrder l ∧ w'.ownsRow w0.heap.size 22 1 (.slice A n c) n (matCells l) ∧ Below w0.heap.size w0 w'
/-- The row while it is put in order. -/
structure SR (w0 wr : World) (A : Option Addr) (n c : Nat) (l : List MatV) : Prop where
  row : wr.ownsRow w0.heap.size 22 1 (.slice A n c) n (matCells l)
  below : Below w0.heap.size w0 wr
theorem SR.drewN {w0 wr : World} {A : Option Addr} {n c : Nat} {l : List MatV} (h : SR w0 wr A n c l) (k : Nat) : SR w0 (wr.drewN k) A n c l := ⟨h.row, bl_drewN h.below k⟩
theorem cmp_hid {w0 : World} {x y : MatV} (hx : MatOk w0 x) (hy : MatOk w0 y) (W : World) (hW : Below w0.heap.size w0 W) : Calls Try.prog 10 #[.slice x.a x.n x.c, .slice y.a y.n y.c] W fun e w' => e = .returned (.int .i64 (cmpM x y)) ∧ w' = W :=
  (tcmp_any (hx.rows.below hW) (hy.rows.below hW)).mono fun e w' ⟨h1, h2⟩ => ⟨h1, h2.symm⟩
set_option maxRecDepth 100000 in
set_option maxHeartbeats 4000000 in
theorem ins_at {w0 w : World} {A : Option Addr} {n c : Nat} {ms : List MatV} (h : SR w0 w A n c ms) (hok : ∀ m ∈ ms, MatOk w0 m) (hn : n ≤ 12) :
    Calls Try.prog 37 #[.slice A n c, .int .i64 0, .int .i64 n, .func (.func 10) #[] #[]] w (SortOut w0 A n c ms) := by
  have hlen : ms.length = n := by have := h.row.1; rw [matCells, List.length_map] at this; omega
  have H := Lib.hid h
  have HOK := Lib.hid hok
  have HLEN := Lib.hid hlen
  clear h hok hlen
  go_enter Try.func37, Try.ntmps37
  go_wp2_with fail
  go_loopw [8] (fun i wr => ∃ (I : Nat) (l : List MatV), 1 ≤ I ∧ (I ≤ n ∨ n = 0 ∧ I = 1) ∧ i = .int .i64 I ∧ l.Perm ms ∧ InOrder (l.take I) ∧ SR w0 wr A n c l) (fun i _ => n - (intOf i).toNat)
  case atStart => exact ⟨1, ms, Nat.le_refl _, by omega, rfl, List.Perm.refl _, by cases ms with | nil => exact List.Pairwise.nil | cons a t => simp [InOrder], H.out⟩
  case round =>
    obtain ⟨I, l, hI1, hIn, rfl, hperm, hsort, hsr⟩ := hrel
    by_cases hlt : I < n
    · have iI : (I : Int) < n := by omega
      obtain ⟨pre0, x0, mid0, suf0, hd0⟩ := Down.start (ms := ms) (by rw [hperm.length_eq, HLEN.out]; exact hlt) hsort hperm
      obtain ⟨G, rfl, _, hnc, _, _⟩ := own_some hsr.row (by omega)
      have HD0 := Lib.hid hd0
      have HSR := Lib.hid hsr
      clear hd0 hsr hperm hsort hIn
      go_wp2_with fail
      go_loopw [9] (fun j W => ∃ (J : Nat) (l : List MatV) (pre : List MatV) (x : MatV) (mid suf : List MatV), J ≤ I ∧ j = .int .i64 J ∧ Down ms l I J pre x mid suf ∧ SR w0 W (some ⟨G, 0, none⟩) n c l) (fun j _ => (intOf j).toNat)
      case atStart => exact ⟨I, _, _, _, _, _, Nat.le_refl _, rfl, HD0.out, HSR.out⟩
      case round =>
        obtain ⟨J, l, pre, x, mid, suf, hJI, rfl, hd, hsr⟩ := hrel
        have hstop : (∀ p y, pre = p ++ [y] → ¬ cmpM x y < 0) → InOrder (l.take (I + 1)) := hd.stop
        rcases nil_or_snoc pre with rfl | ⟨pre, y, rfl⟩
        · obtain rfl : 0 = J := hd.at_
          have hs := hstop (fun p y e => by simp at e)
          have HS := Lib.hid hs
          have HP := Lib.hid hd.perm
          have HSR2 := Lib.hid hsr
          clear hs hd hsr hstop HSR HD0
          go_wp2_with fail
          go_quiet (fail)
          go_wp2_with fail
          exact ⟨⟨I + 1, l, by omega, .inl (by omega), by simp, HP.out, HS.out, HSR2.out.drewN _⟩, by simp [intOf]; omega⟩
        · have hat := hd.at_
          simp only [List.length_append, List.length_cons, List.length_nil] at hat
          have hM1 : (J : Int) - 1 = (pre.length : Nat) := by omega
          have iM : (pre.length : Int) < n := by omega
          have iJ : (J : Int) < n := by omega
          have hJ0 : 0 < J := by omega
          obtain ⟨G', e, _, _, _, hcs⟩ := own_some hsr.row (by omega)
          injection e with e
          injection e with e _ _
          subst e
          have hl := hd.eq
          have cy : wr.cell? ⟨G, pre.length, none⟩ = some (.slice y.a y.n y.c) := hcs _ _ (by rw [hl]; simp [matCells])
          have cx : wr.cell? ⟨G, J, none⟩ = some (.slice x.a x.n x.c) := hcs _ _ (by rw [hl, ← hat]; simp [matCells])
          have hmx : x ∈ ms := hd.perm.subset (by rw [hl]; simp)
          have hmy : y ∈ ms := hd.perm.subset (by rw [hl]; simp)
          have hcmp : ∀ nq, Calls Try.prog 10 #[.slice x.a x.n x.c, .slice y.a y.n y.c] (wr.drewN nq) fun e w' => e = .returned (.int .i64 (cmpM x y)) ∧ w' = wr.drewN nq := fun nq => cmp_hid (HOK.out _ hmx) (HOK.out _ hmy) _ (bl_drewN hsr.below nq)
          obtain ⟨Z, hZ⟩ : ∃ Z, cmpM x y = Z := ⟨_, rfl⟩
          rw [hZ] at hcmp
          have HCMP := Lib.hid hcmp
          have HZ := Lib.hid hZ
          have HD := Lib.hid hd
          have HSR2 := Lib.hid hsr
          have HST := Lib.hid hstop
          obtain ⟨M, hM⟩ : ∃ M, pre.length = M := ⟨_, rfl⟩
          rw [hM] at hM1 iM cy
          have HMM := Lib.hid hM
          clear hcmp hZ hd hsr hstop hcs hl hat hM HSR HD0
          by_cases hneg : Z < 0
          · go_wp2_with fail
            go_quiet ((go_at_call 10; exact Calls.quiet_of_same (HCMP.out _)))
            go_wp2_with fail
            have hsr6 := HSR2.out.drewN nq
            have hd6 := HD.out.step (by rw [HZ.out]; exact hneg)
            have hl6 := HD.out.eq
            rw [List.append_assoc, List.singleton_append] at hl6
            rw [hl6] at hsr6
            have hrow8 := ownsRow_set (ownsRow_set hsr6.row J (.slice y.a y.n y.c)) M (.slice x.a x.n x.c)
            have hcells : ((matCells (pre ++ y :: x :: (mid ++ suf))).set J (.slice y.a y.n y.c)).set M (.slice x.a x.n x.c) = matCells (pre ++ x :: (y :: mid ++ suf)) := by
              have := swap_cells pre (mid ++ suf) y x
              rw [HMM.out, show M + 1 = J by omega] at this
              exact this
            rw [hcells] at hrow8
            have x0 : (wr.drewN nq).cell? ⟨G, M, none⟩ = some (.slice y.a y.n y.c) := cy
            have x1 : (wr.drewN nq).cell? ⟨G, J, none⟩ = some (.slice x.a x.n x.c) := cx
            clear cy cx
            generalize wr.drewN nq = w6 at *
            have y0 : w6.frozen? ⟨G, M, none⟩ = false := own_free hsr6.row _
            have y1 : w6.frozen? ⟨G, J, none⟩ = false := own_free hsr6.row _
            have hGw := own_block hsr6.row (k := G) rfl
            have hb8 := bl_drew (bl_set (bl_set hsr6.below ⟨G, J, none⟩ (.slice y.a y.n y.c) hGw) ⟨G, M, none⟩ (.slice x.a x.n x.c) hGw)
            have hsr8 : SR w0 (((w6.setCell ⟨G, J, none⟩ (.slice y.a y.n y.c)).setCell ⟨G, M, none⟩ (.slice x.a x.n x.c)).drew) (some ⟨G, 0, none⟩) n c (pre ++ x :: (y :: mid ++ suf)) := ⟨hrow8, hb8⟩
            have HSR8 := Lib.hid hsr8
            have HD6 := Lib.hid hd6
            have hne1 : M ≠ J := by omega
            have hne2 : J ≠ M := by omega
            clear hsr6 hd6 hl6 hrow8 hcells hb8 hsr8 hGw HSR2
            have hwM : IntKind.i64.wrap (M : Int) = M := by rw [IntKind.wrap_i64]; omega
            go_region_law (fail)
            all_goals
              go_wp2_with fail
              exact ⟨⟨M, _, _, _, _, _, by omega, by simp, (by have := HD6.out; rwa [show J - 1 = M by omega] at this), HSR8.out⟩, by simp [intOf]; omega⟩
          · go_wp2_with fail
            go_quiet ((go_at_call 10; exact Calls.quiet_of_same (HCMP.out _)))
            have hs := HST.out (fun p y' e => by
              have e2 := List.append_inj' e rfl
              have e3 : y = y' := by simpa using e2.2
              subst e3
              rw [HZ.out]; exact hneg)
            have HS := Lib.hid hs
            have HP := Lib.hid HD.out.perm
            clear hs
            go_wp2_with fail
            exact ⟨⟨I + 1, l, by omega, .inl (by omega), by simp, HP.out, HS.out, HSR2.out.drewN _⟩, by simp [intOf]; omega⟩
    · have iI : (n : Int) ≤ I := by omega
      have hs : InOrder l := by rwa [List.take_of_length_le (by rw [hperm.length_eq, HLEN.out]; omega)] at hsort
      have HS := Lib.hid hs
      have HSR := Lib.hid hsr
      have HP := Lib.hid hperm
      clear hs hsr hperm hsort
      go_wp2_with fail
      refine bodyPost_end (results_none rfl _ _ _) rfl ?_
      exact ⟨rfl, l, HP.out, HS.out, HSR.out.row, HSR.out.below⟩
set_option maxHeartbeats 4000000 in
theorem stable_at {w0 w : World} {A : Option Addr} {n c : Nat} {ms : List MatV} (h : SR w0 w A n c ms) (hok : ∀ m ∈ ms, MatOk w0 m) (hn : n ≤ 12) :
    Calls Try.prog 34 #[.slice A n c, .int .i64 n, .func (.func 10) #[] #[]] w (SortOut w0 A n c ms) := by
  have HC := Lib.hid (ins_at h hok hn)
  clear h hok
  have iN : (n : Int) < 20 := by omega
  go_enter Try.func34, Try.ntmps34
  go_wp2_with fail
  go_loopw [7, 8] (fun a b wr => a = .int .i64 0 ∧ b = .int .i64 20 ∧ wr = w) (fun _ _ _ => 0)
  case atStart => exact ⟨rfl, rfl, rfl⟩
  case round =>
    obtain ⟨rfl, rfl, rfl⟩ := hrel
    go_wp2_with fail
    refine HC.out.mono ?_
    rintro e w1 ⟨rfl, l, hp, hs, hrow, hb⟩
    have HX : Hid (∃ l, l.Perm ms ∧ InOrder l ∧ w1.ownsRow w0.heap.size 22 1 (.slice A n c) n (matCells l) ∧ Below w0.heap.size w0 w1) := Lib.hid ⟨l, hp, hs, hrow, hb⟩
    clear hp hs hrow hb HC
    go_wp2_with fail
    go_loopw [6] (fun a wr => a = .int .i64 20 ∧ wr = w1) (fun _ _ => 0)
    case atStart => exact ⟨rfl, rfl⟩
    case round =>
      obtain ⟨rfl, rfl⟩ := hrel
      go_wp2_with fail
      refine bodyPost_end (results_none rfl _ _ _) rfl ?_
      exact ⟨rfl, HX.out⟩
theorem sortStable_at {w0 w : World} {A : Option Addr} {n c : Nat} {ms : List MatV} (h : SR w0 w A n c ms) (hok : ∀ m ∈ ms, MatOk w0 m) (hn : n ≤ 12) :
    Calls Try.prog 30 #[.slice A n c, .func (.func 10) #[] #[]] w (SortOut w0 A n c ms) := by
  have HC := Lib.hid (stable_at h hok hn)
  clear h hok
  go_enter Try.func30, Try.ntmps30
  go_wp2_with fail
  refine HC.out.mono ?_
  rintro e w1 ⟨rfl, hx⟩
  have HX := Lib.hid hx
  clear hx HC
  go_wp2_with fail
  refine bodyPost_end (results_none rfl _ _ _) rfl ?_
  exact ⟨rfl, HX.out⟩
theorem mat_nil (W : World) (c : Nat) : (binOp .eql 34 (.slice none 0 c) (.slice none 0 0)).run Try.prog W = .ok (.bool true) W := by kernel_rfl
theorem mat_not_nil (W : World) (ad : Addr) (n c : Nat) : (binOp .eql 34 (.slice (some ad) n c) (.slice none 0 0)).run Try.prog W = .ok (.bool false) W := by kernel_rfl
set_option maxHeartbeats 2000000 in
theorem cloneM_any {w : World} {A : Option Addr} {n c : Nat} {ms : List MatV} (h : MatsAt w A n ms) :
    Calls Try.prog 29 #[.slice A n c] w fun e w' => ∃ v, e = .returned v ∧ w'.ownsRow w.heap.size 22 1 v n (matCells ms) ∧ Below w.heap.size w w' := by
  have H := Lib.hid h
  have hl := h.len
  have hn := h.few
  clear h
  obtain ⟨i0, hi, hz0, hz1, hz2⟩ := info_parts infoMat
  cases A with
  | none =>
    have hn0 : n = 0 := by
      rcases Nat.eq_zero_or_pos n with h | h
      · exact h
      · obtain ⟨b, off, h1, _⟩ := H.out.cells h
        cases h1
    subst hn0
    have hr0 : ms = [] := List.length_eq_zero_iff.1 hl
    subst hr0
    have hq := mat_nil
    go_enter Try.func29, Try.ntmps29
    go_wp2_with fail
    go_ret
    exact ⟨_, rfl, ⟨rfl, .inl ⟨rfl, rfl⟩⟩, Below.refl _ _⟩
  | some ad =>
    have hb0 := bl_alloc (Below.refl _ w) (.cells #[] 22)
    have hr := (H.out.below hb0).reads (c := c) ad rfl
    have hnew := alloc_new w (.cells #[] 22)
    have hown : (w.alloc (.cells #[] 22)).ownsRow w.heap.size 22 1 (.slice (some ⟨w.heap.size, 0, none⟩) 0 0) 0 [] := ⟨rfl, .inr ⟨_, 0, #[], rfl, Nat.le_refl _, hnew, Nat.le_refl _, by decide, rfl, rfl⟩⟩
    have hsz : w.heap.size ≤ (w.alloc (.cells #[] 22)).heap.size := hb0.size
    have HB := Lib.hid hb0
    have HO := Lib.hid hown
    have HR := Lib.hid hr
    have hq := mat_not_nil
    clear hb0 hnew hown hr hl
    go_enter Try.func29, Try.ntmps29
    go_wp2_with (at_builtin; refine wpList_append_reads _ rfl (.tmp 5) (.tmp 6) 34 rfl w.heap.size 22 i0 _ 1 24 Try.underlying34 hi hz0 hz1 hz2 rfl (by decide) _ 0 [] rfl HO.out _ n _ rfl HR.out (by simp only [maxLen]; omega) (by omega) hsz ?_; intro v8 w8 hown8 hgr8; have ho8 := only_grown (S := fun k => k = w.heap.size) (Only.refl _ _) hgr8 (fun k hk => .inl (by injection hk with hk; exact hk.symm)); have hb8 := bl_only HB.out ho8 (by rintro k rfl; exact Nat.le_refl _); rw [Nat.zero_add, List.nil_append] at hown8)
    go_ret
    exact ⟨_, rfl, hown8, hb8⟩
/-- What Sort hands back: the same matches in order, in a row of its own. -/
def Sorted (w : World) (n : Nat) (ms : List MatV) (e : Ending) (w' : World) : Prop := ∃ A c l, e = .returned (.slice A n c) ∧ l.Perm ms ∧ InOrder l ∧ MatsAt w' A n l ∧ Below w.heap.size w w'
theorem sort_at {w : World} {A : Option Addr} {n c : Nat} {ms : List MatV} (h : MatsAt w A n ms) :
    Calls Try.prog 15 #[.slice A n c] w (Sorted w n ms) := by
  have hn := h.few
  have H := Lib.hid h
  clear h
  go_enter Try.func15, Try.ntmps15
  go_wp2_with fail
  refine (cloneM_any H.out).mono ?_
  rintro e w1 ⟨v, rfl, hrow, hb⟩
  obtain ⟨A1, c1, rfl⟩ := own_form hrow
  have HC := Lib.hid (sortStable_at (w0 := w) ⟨hrow, hb⟩ H.out.each hn)
  clear hrow hb
  go_wp2_with fail
  refine HC.out.mono ?_
  rintro e w2 ⟨rfl, hx⟩
  have HX := Lib.hid hx
  clear hx HC
  go_wp2_with fail
  go_ret
  obtain ⟨l, hp, hs, hrow, hb⟩ := HX.out
  exact ⟨A1, c1, l, rfl, hp, hs, .of_own hrow hn (fun m hm => (H.out.each m (hp.subset hm)).below hb), hb⟩
end Go.Proofs.Ytmiijnemacgbiaa
