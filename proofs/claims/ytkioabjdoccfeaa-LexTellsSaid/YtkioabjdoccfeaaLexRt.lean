/- Chapter 2: the document's answer: Lex, Same; LexTells. -/
import Derived.Test.YtkioabjdoccfeaaLexRe
import Derived.Test.YtkioabjdoccfeaaLexMa
namespace Go.Proofs.Ytkioabjdoccfeaa
open Go.RowKit
set_option linter.unusedVariables false
set_option linter.unusedSimpArgs false

theorem lexedInfo : (Try.prog.info? 38).map (·.size) = some 3 := by kernel_rfl
theorem lexed_end {W : World} {R : Nat} {tmps : Array Value} {v0 v1 v2 : Value} {fr : Nat × Nat} (hp : tmps.getD 2 undef = .pointer (some ⟨R, 0, none⟩)) (hg : W.heap[R]? = some (.cells #[v0, v1, v2] 38 fr)) :
    (results Try.f15 tmps).run Try.prog W = .ok (.agg #[v0, v1, v2]) W :=
  results_c' (p := 2) rfl _ _ R 38 #[v0, v1, v2] fr _ hp hg Try.underlying38 rfl (by rw [lexedInfo]; rfl)
theorem lexed_set {W : World} {g : Nat} {v0 v1 v2 : Value} {fr : Nat × Nat} (h : W.heap[g]? = some (.cells #[v0, v1, v2] 38 fr)) (x0 x1 x2 : Value) :
    (((W.setCell ⟨g, 0, none⟩ x0).setCell ⟨g, 1, none⟩ x1).setCell ⟨g, 2, none⟩ x2).heap[g]? = some (.cells #[x0, x1, x2] 38 fr) := by
  have h0 : W.heap[g]? = some (.cells [v0, v1, v2].toArray 38 fr) := h
  have h1 := setCell_same h0 (i := 0) x0
  have h2 := setCell_same h1 (i := 1) x1
  have h3 := setCell_same h2 (i := 2) x2
  exact h3
def LexPost (L : Lexed) (w : World) (e : Ending) (w' : World) : Prop := ∃ A c, e = .returned (.agg #[.slice A L.toks.length c, .int .i64 L.at_, .int .i64 L.err]) ∧ ToksAt w' A L.toks.length L.toks ∧ Below w.heap.size w w'
set_option maxRecDepth 100000 in
set_option maxHeartbeats 4000000 in
theorem rlex_any (s : ByteArray) (w : World) (hs : s.size ≤ 1000000) :
    Calls Try.prog 15 #[.string s] w (LexPost (lexL (bl s)) w) := by
  have hl := bl_length s
  have hfa := each_facts (bl s)
  have hre := fun w => reach_any s w hs
  have hlx : lexL (bl s) = if 200 < (eachL (bl s)).1.length then ⟨[], ((eachL (bl s)).1.getD 200 Tok.zero).at_, 12⟩ else if (eachL (bl s)).2 < s.size then ⟨[], (eachL (bl s)).2, 10⟩ else ⟨(eachL (bl s)).1, s.size, 0⟩ := by
    unfold lexL
    rw [hl]
  generalize eachL (bl s) = ee at *
  obtain ⟨ts, E⟩ := ee
  dsimp only at hlx hfa hre
  have hE := hfa.2.1
  have hlen : ts.length ≤ 1000000 := by have := hfa.2.2.2; omega
  rw [hl] at hE
  obtain ⟨TT, at1, er1, hq⟩ : ∃ TT at1 er1, lexL (bl s) = ⟨TT, at1, er1⟩ := ⟨_, _, _, rfl⟩
  rw [hq] at hlx ⊢
  have HRE := Lib.hid hre
  have HLX := Lib.hid hlx
  clear hq
  clear hre hlx hfa hl
  have hgo : ∀ (w : World), (w.alloc (.cells #[.slice none 0 0, .int .i64 0, .int .i64 0] 38)).heap[w.heap.size]? = some (.cells #[.slice none 0 0, .int .i64 0, .int .i64 0] 38) := fun w => alloc_new w _
  have HGO := Lib.hid hgo
  clear hgo
  go_enter Try.func15, Try.ntmps15
  go_wp2_with fail
  refine (HRE.out _).mono ?_
  rintro e w1 ⟨v, rfl, hown, hb1⟩
  obtain ⟨A, cv, rfl⟩ := own_form hown
  obtain ⟨N, hN⟩ : ∃ N, ts.length = N := ⟨_, rfl⟩
  rw [hN] at hown hlen
  have hb := bl_then (bl_alloc (Below.refl _ w) (.cells #[.slice none 0 0, .int .i64 0, .int .i64 0] 38)) hb1
  have hR1 := (hb1.block w.heap.size (by simp)).trans (HGO.out w)
  have hR2 := alloc_old hR1 (.cells #[.slice A ts.length cv, .int .i64 E] 42)
  have hta := (ToksAt.of_own (w := w1) (lo := (w.alloc (.cells #[.slice none 0 0, .int .i64 0, .int .i64 0] 38)).heap.size) hown).below (bl_alloc (Below.refl _ _) (.cells #[.slice A ts.length cv, .int .i64 E] 42))
  have hb2 := bl_alloc hb (.cells #[.slice A ts.length cv, .int .i64 E] 42)
  have r0 := cell_of_blk (cs := [_, _, _]) hR2 0
  have r1 := cell_of_blk (cs := [_, _, _]) hR2 1
  have r2 := cell_of_blk (cs := [_, _, _]) hR2 2
  have f0 := free_of_blk (cs := [_, _, _]) hR2 0
  have f1 := free_of_blk (cs := [_, _, _]) hR2 1
  have f2 := free_of_blk (cs := [_, _, _]) hR2 2
  have hsz := hb1.size
  simp at hsz
  simp only [List.getElem?_cons_zero, List.getElem?_cons_succ, hN] at r0 r1 r2 f0 f1 f2 hR2 hta hb2 ⊢
  have hset := fun x0 x1 x2 => lexed_set hR2 x0 x1 x2
  have HR2 := Lib.hid hR2
  have HTA := Lib.hid hta
  have HB2 := Lib.hid hb2
  have HSET := Lib.hid hset
  have HN := Lib.hid hN
  have HOWN := Lib.hid hown
  clear hR1 hR2 hta hb2 hset hb hb1 hown hN
  have hfin : ∀ (at2 er2 : Nat) (T2 : List Tok) (A2 : Option Addr) (c2 : Nat) (W : World) (tmps : Array Value), (⟨TT, at1, er1⟩ : Lexed) = ⟨T2, at2, er2⟩ → W.heap[w.heap.size]? = some (.cells #[.slice A2 T2.length c2, .int .i64 at2, .int .i64 er2] 38) → ToksAt W A2 T2.length T2 → Below w.heap.size w W → tmps.getD 2 undef = .pointer (some ⟨w.heap.size, 0, none⟩) →
      bodyPost Try.prog Try.f15 (LexPost ⟨TT, at1, er1⟩ w) Exit.ret ⟨tmps, []⟩ W := by
    intro at2 er2 T2 A2 c2 W tmps he hW hT hbw htm
    injection he with e1 e2 e3
    subst e1 e2 e3
    exact bodyPost_ret (v := .agg #[.slice A2 TT.length c2, .int .i64 at1, .int .i64 er1]) (lexed_end htm hW) rfl ⟨A2, c2, rfl, hT, hbw⟩
  have FIN := Lib.hid hfin
  clear hfin
  have hkeep : ∀ (x0 x1 x2 : Value), Only (fun k => k = w.heap.size) (w1.alloc (.cells #[.slice A N cv, .int .i64 E] 42)) ((((w1.alloc (.cells #[.slice A N cv, .int .i64 E] 42)).setCell ⟨w.heap.size, 0, none⟩ x0).setCell ⟨w.heap.size, 1, none⟩ x1).setCell ⟨w.heap.size, 2, none⟩ x2) := fun x0 x1 x2 => ((((Only.refl (fun k => k = w.heap.size) _).setCell _ _ (.inl rfl)).setCell _ _ (.inl rfl)).setCell _ _ (.inl rfl))
  have HKE := Lib.hid hkeep
  clear hkeep
  have nilAt : ∀ W : World, ToksAt W none 0 [] := fun W => ⟨rfl, fun h => absurd h (by decide)⟩
  have NIL := Lib.hid nilAt
  clear nilAt
  by_cases h200 : 200 < N
  · have i2 : (200 : Int) < N := by omega
    have hlx := HLX.out
    rw [HN.out, if_pos h200] at hlx
    obtain ⟨g, rfl, hg, hc⟩ := HTA.out.cells (by omega)
    have hc2 := (hc 200 h200).2.1
    generalize (ts.getD 200 Tok.zero).at_ = at0 at *
    have HLX2 := Lib.hid hlx
    clear hc hlx
    go_wp2_with fail
    exact FIN.out _ _ [] none 0 _ _ HLX2.out (HSET.out _ _ _) (NIL.out _) (bl_only HB2.out (HKE.out _ _ _) (fun i hi => by subst hi; exact Nat.le_refl _)) rfl
  · have i2 : ¬ (200 : Int) < N := by omega
    have hlx := HLX.out
    rw [HN.out, if_neg h200] at hlx
    by_cases hE2 : E < s.size
    · have iE : (E : Int) < s.size := by omega
      rw [if_pos hE2] at hlx
      have HLX2 := Lib.hid hlx
      clear hlx
      go_wp2_with fail
      exact FIN.out _ _ [] none 0 _ _ HLX2.out (HSET.out _ _ _) (NIL.out _) (bl_only HB2.out (HKE.out _ _ _) (fun i hi => by subst hi; exact Nat.le_refl _)) rfl
    · have iE : ¬ (E : Int) < s.size := by omega
      rw [if_neg hE2] at hlx
      have HLX2 := Lib.hid hlx
      clear hlx
      go_wp2_with fail
      have hN := HN.out
      subst hN
      refine FIN.out _ _ ts A cv _ _ HLX2.out (HSET.out _ _ _) (ToksAt.of_own (ownsRow_kept (HOWN.out.alloc _) (HKE.out _ _ _) ?_)) (bl_only HB2.out (HKE.out _ _ _) (fun i hi => by subst hi; exact Nat.le_refl _)) rfl
      rintro i rfl hk
      exact absurd (own_type (HOWN.out.alloc _) hk HR2.out) (by decide)
/-- Same, of two rows that are the same. -/
def Drawn (w : World) (v : Value) (e : Ending) (w' : World) : Prop := e = .returned v ∧ ∃ q, w' = w.drewN q
set_option maxHeartbeats 2000000 in
theorem same_any (w : World) (A B : Option Addr) (n c c2 : Nat) (ts : List Tok) (h1 : ToksAt w A n ts) (h2 : ToksAt w B n ts) (hn : n ≤ 1000000) :
    Calls Try.prog 16 #[.slice A n c, .slice B n c2] w (Drawn w (.bool true)) := by
  have H1 := Lib.hid h1
  have H2 := Lib.hid h2
  clear h1 h2
  go_enter Try.func16, Try.ntmps16
  go_wp2_with fail
  go_loopw [5] (fun i wr => ∃ I : Nat, I ≤ n ∧ i = .int .i64 I ∧ ∃ q, wr = w.drewN q) (fun i _ => n - (intOf i).toNat)
  case atStart => exact ⟨0, Nat.zero_le _, rfl, 0, rfl⟩
  case round =>
    obtain ⟨I, hI, rfl, q, rfl⟩ := hrel
    by_cases hlt : I < n
    · have il : (I : Int) < n := by omega
      have i0 : (0 : Int) ≤ I := by omega
      obtain ⟨g, rfl, hg, hc⟩ := H1.out.cells (by omega)
      obtain ⟨g2, rfl, hg2, hc2⟩ := H2.out.cells (by omega)
      have hcI := hc I hlt
      have hcI2 := hc2 I hlt
      clear hc hc2
      generalize ts.getD I Tok.zero = tk at *
      obtain ⟨k, a, t, m⟩ := tk
      obtain ⟨x0, x1, x2, x3⟩ := hcI
      obtain ⟨y0, y1, y2, y3⟩ := hcI2
      dsimp only at x0 x1 x2 x3 y0 y1 y2 y3
      go_wp2_with fail
      go_quiet (fail)
      go_wp2_with fail
      go_roundw
      case rel => exact ⟨I + 1, hlt, by simp, by first | exact ⟨_, rfl⟩ | exact ⟨_, World.drewN_drewN ..⟩⟩
      case measure => simp [intOf]; omega
    · have il : ¬ (I : Int) < n := by omega
      go_wp2_with fail
      go_ret
      exact ⟨rfl, q, rfl⟩
theorem field_all (A : Option Addr) (n c : Nat) (E : Int) (w : World) : (Instr.field 42 (.agg #[.slice A n c, .int .i64 E]) 0).run Try.prog w = .ok (.slice A n c) w := by kernel_rfl
set_option maxHeartbeats 2000000 in
theorem tells_any (s : ByteArray) (w : World) (hs : s.size ≤ 1000000) :
    Calls Try.prog 10 #[.string s] w fun e w' => e = .returned (.bool true) ∧ Below w.heap.size w w' := by
  have h1 := fun w => lex_at s hs w
  have h2 := fun w => rlex_any s w hs
  have h3 := fun w => each_at s hs w
  have h4 := fun w => reach_any s w hs
  have hfa := each_facts (bl s)
  have hn : (eachL (bl s)).1.length ≤ 1000000 := by have := hfa.2.2.2; rw [bl_length] at this; omega
  have hn2 : (lexL (bl s)).toks.length ≤ 1000000 := by
    unfold lexL
    split
    · simp
    · split
      · simp
      · exact hn
  clear hfa
  generalize lexL (bl s) = L at *
  generalize eachL (bl s) = EE at *
  obtain ⟨ts, E⟩ := EE
  obtain ⟨TT, at1, er1⟩ := L
  unfold LexPost at h2
  dsimp only at h1 h2 h3 h4 hn hn2
  have H1 := Lib.hid h1
  have H2 := Lib.hid h2
  have H3 := Lib.hid h3
  have H4 := Lib.hid h4
  clear h1 h2 h3 h4
  have hfl := field_all
  go_enter Try.func10, Try.ntmps10
  go_wp2_with fail
  refine (H1.out _).mono ?_
  rintro e w1 ⟨A, c, rfl, t1, hb1⟩
  go_wp2_with fail
  refine (H2.out _).mono ?_
  rintro e w2 ⟨A2, c2, rfl, t2, hb2⟩
  obtain ⟨n, hnT⟩ : ∃ n, TT.length = n := ⟨_, rfl⟩
  rw [hnT] at t1 t2 hn2
  simp only [hnT]
  have hb12 := bl_then hb1 hb2
  have hx3 := alloc_new w2 (.cells #[.slice A2 n c2, .int .i64 at1, .int .i64 er1] 38)
  have hb3 := bl_alloc (Below.refl _ w2) (.cells #[.slice A2 n c2, .int .i64 at1, .int .i64 er1] 38)
  have s1 := same_any _ A A2 n c c2 TT ((t1.below hb2).below hb3) (t2.below hb3) hn2
  have hb13 := bl_then hb12 hb3
  have S1 := Lib.hid s1
  have X3 := Lib.hid hx3
  clear t1 t2 hb1 hb2 hb3 s1 hx3 hnT hb12
  go_wp2_with fail
  refine S1.out.mono ?_
  rintro e w4 ⟨rfl, q, rfl⟩
  go_wp2_with fail
  refine (H3.out _).mono ?_
  rintro e w5 ⟨A5, c5, rfl, t5, hb5⟩
  go_wp2_with fail
  refine (H4.out _).mono ?_
  rintro e w6 ⟨v, rfl, hown, hb6⟩
  obtain ⟨A6, c6, rfl⟩ := own_form hown
  obtain ⟨n2, hnT⟩ : ∃ n, ts.length = n := ⟨_, rfl⟩
  rw [hnT] at t5 hown hn
  simp only [hnT]
  have s2 := same_any _ A5 A6 n2 c5 c6 ts (t5.below hb6) (ToksAt.of_own hown) hn
  have S2 := Lib.hid s2
  have hx6 := (hb6.block w2.heap.size (by have := hb5.size; simp at this; omega)).trans ((hb5.block w2.heap.size (by simp)).trans X3.out)
  have hb16 := bl_then (bl_then (bl_drewN hb13 q) hb5) hb6
  have X6 := Lib.hid hx6
  clear t5 hb5 hb6 s2 hnT hown hb13 hx6
  go_wp2_with fail
  refine S2.out.mono ?_
  rintro e w7 ⟨rfl, q2, rfl⟩
  have m1 : (w6.drewN q2).cell? ⟨w2.heap.size, 1, none⟩ = some (.int .i64 at1) := cell_of_blk (cs := [_, _, _]) X6.out 1
  have m2 : (w6.drewN q2).cell? ⟨w2.heap.size, 2, none⟩ = some (.int .i64 er1) := cell_of_blk (cs := [_, _, _]) X6.out 2
  have m1w : w6.cell? ⟨w2.heap.size, 1, none⟩ = some (.int .i64 at1) := cell_of_blk (cs := [_, _, _]) X6.out 1
  have m2w : w6.cell? ⟨w2.heap.size, 2, none⟩ = some (.int .i64 er1) := cell_of_blk (cs := [_, _, _]) X6.out 2
  go_wp2_with fail
  go_ret
  exact ⟨rfl, bl_drewN hb16 q2⟩
set_option maxHeartbeats 2000000 in
theorem tells_law (s0 t0 : ByteArray) (often : Int) (w : World) (_hs : s0.size ≤ 140737488351232) (_ht : t0.size ≤ 140737488351232) (ho : -9223372036854775808 ≤ often ∧ often ≤ 9223372036854775807) :
    Calls Try.prog 3 #[.string s0, .string t0, .int .i64 often] w fun e w' => e = .returned (.bool true) ∧ Below w.heap.size w w' := by
  have hz := short_size s0
  have hsh := fun w => short_any s0 w
  have hz2 := short_size t0
  have hsh2 := fun w => short_any t0 w
  generalize s0.extract 0 (min 90 s0.size) = s at *
  generalize t0.extract 0 (min 90 t0.size) = t at *
  have t1 := Int.tmod_lt_of_pos often (show (0:Int) < 6 by decide)
  have t2 := Int.lt_tmod_of_pos often (show (0:Int) < 6 by decide)
  have HSH := Lib.hid hsh
  have HSH2 := Lib.hid hsh2
  clear hsh hsh2
  go_enter Try.func3, Try.ntmps3
  go_wp2_with fail
  refine (awake_any _).mono ?_
  rintro e w1 ⟨rfl, hb1⟩
  go_wp2_with fail
  refine (HSH.out _).mono ?_
  rintro e w' ⟨rfl, rfl⟩
  go_wp2_with fail
  go_loop [8, 9] (fun b i => ∃ (I : Nat) (bs : ByteArray), I ≤ 6 ∧ i = .int .i64 I ∧ b = .string bs ∧ bs.size ≤ I * 180) (fun _ i => 6 - (intOf i).toNat)
  case atStart => exact ⟨0, ⟨#[]⟩, by omega, rfl, rfl, Nat.zero_le _⟩
  case round =>
    obtain ⟨I, bs, hI, rfl, rfl, hbs⟩ := hrel
    by_cases hlt : (I : Int) ≤ (often.tmod 6 + 6) % 6
    · have hI2 : I < 6 := by omega
      go_wp2_with fail
      refine (HSH2.out _).mono ?_
      rintro e w' ⟨rfl, rfl⟩
      go_wp2_with fail
      refine ⟨⟨I + 1, _, hI2, by simp, rfl, ?_⟩, by simp [intOf]; omega⟩
      rw [← bl_length, bl_append, bl_append, List.length_append, List.length_append, bl_length, bl_length, bl_length]
      omega
    · go_wp2_with fail
      refine (tells_any s _ (by omega)).mono ?_
      rintro e w2 ⟨rfl, hb2⟩
      go_wp2_with fail
      refine (tells_any bs _ (by omega)).mono ?_
      rintro e w3 ⟨rfl, hb3⟩
      go_wp2_with fail
      go_ret
      exact ⟨rfl, bl_then (bl_then hb1 hb2) hb3⟩
end Go.Proofs.Ytkioabjdoccfeaa
