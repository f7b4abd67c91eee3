/- Chapter 2: Lex: a text's tokens, or why there are none. -/
import Derived.Test.YtkioabjdoccfeaaLexL
namespace Go.Proofs.Ytkioabjdoccfeaa
open Go.RowKit Go.Shelf
set_option linter.unusedVariables false
set_option linter.unusedSimpArgs false
attribute [local go_sem] Oper.semAt_some

/-- The boxes of Lex that stay as they are till it ends: from b0 on. -/
structure LexB (w0 : Nat) (s : ByteArray) (v1 v2 v3 : Value) (W : World) : Prop where
  h0 : W.heap[w0]? = some (.cells #[.string s] 9 (0, 0))
  h1 : W.heap[w0 + 1]? = some (.cells #[v1] 26 (0, 0))
  h2 : W.heap[w0 + 1 + 1]? = some (.cells #[v2] 3 (0, 0))
  h3 : W.heap[w0 + 1 + 1 + 1]? = some (.cells #[v3] 27 (0, 0))
theorem lexB_from (B w0 : Nat) (s : ByteArray) (v1 v2 v3 : Value) : OwnFrom B (fun (_ : Unit) W => LexB w0 s v1 v2 v3 W) := fun _ W W' row h hg hr =>
  ⟨blk_from B _ _ _ _ () W W' row h.h0 hg hr, blk_from B _ _ _ _ () W W' row h.h1 hg hr, blk_from B _ _ _ _ () W W' row h.h2 hg hr, blk_from B _ _ _ _ () W W' row h.h3 hg hr⟩
def LexI (w0 n : Nat) (s : ByteArray) (pre : List (TokIn n)) (W : World) : Prop :=
  EachI w0 (w0 + 1 + 1 + 1 + 1) n pre W ∧ W.heap[w0 + 1 + 1 + 1 + 1 + 1]? = some (.cells #[.int .i64 (behind (bl s) (skipN (bl s) 0) (pre.map (·.1)))] 3 (0, 0)) ∧ LexB w0 s (.slice none 0 0) (.int .i64 0) (.int .i64 0) W ∧ pre.length ≤ 200
theorem lexI_from (B w0 n : Nat) (s : ByteArray) : OwnFrom B (LexI w0 n s) := by
  rintro pre W W' row ⟨h1, h2, h3, h4⟩ hg hr
  exact ⟨eachI_from B _ _ _ pre W W' row h1 hg hr, blk_from B _ _ _ _ () W W' row h2 hg hr, lexB_from B _ _ _ _ _ () W W' row h3 hg hr, h4⟩
def LexX (w0 n : Nat) (s : ByteArray) (c : Code) (pre : List (TokIn n)) (W : World) : Prop :=
  c = .ret ∧ pre.length = 201 ∧ LexB w0 s (.slice none 0 0) (.int .i64 ((pre.map (·.1)).getLastD Tok.zero).at_) (.int .i64 12) W
theorem lexX_from (B w0 n : Nat) (s : ByteArray) (c : Code) : OwnFrom B (LexX w0 n s c) := by
  rintro pre W W' row ⟨h1, h2, h3⟩ hg hr
  exact ⟨h1, h2, lexB_from B _ _ _ _ _ () W W' row h3 hg hr⟩

/-- The three results are laid. -/
theorem lexB_set {w0 : Nat} {s : ByteArray} {v1 v2 v3 : Value} {W : World} (h : LexB w0 s v1 v2 v3 W) (u1 u2 u3 : Value) :
    LexB w0 s u1 u2 u3 (((W.setCell ⟨w0 + 1, 0, none⟩ u1).setCell ⟨w0 + 1 + 1, 0, none⟩ u2).setCell ⟨w0 + 1 + 1 + 1, 0, none⟩ u3).drew := by
  have a1 := setCell_same (cs := [v1]) (i := 0) h.h1 u1
  have b1 := setCell_other h.h2 (show w0 + 1 + 1 ≠ w0 + 1 by omega) (i := 0) u1
  have c1 := setCell_other h.h3 (show w0 + 1 + 1 + 1 ≠ w0 + 1 by omega) (i := 0) u1
  have z1 := setCell_other h.h0 (show w0 ≠ w0 + 1 by omega) (i := 0) u1
  have a2 := setCell_other a1 (show w0 + 1 ≠ w0 + 1 + 1 by omega) (i := 0) u2
  have b2 := setCell_same (cs := [v2]) (i := 0) b1 u2
  have c2 := setCell_other c1 (show w0 + 1 + 1 + 1 ≠ w0 + 1 + 1 by omega) (i := 0) u2
  have z2 := setCell_other z1 (show w0 ≠ w0 + 1 + 1 by omega) (i := 0) u2
  exact ⟨setCell_other z2 (by omega) _, setCell_other a2 (by omega) _, setCell_other b2 (by omega) _, setCell_same (cs := [v3]) (i := 0) c2 u3⟩
theorem lex_results {W : World} {w0 : Nat} {s : ByteArray} {v1 : Value} {k2 k3 : Int} (h : LexB w0 s v1 (.int .i64 k2) (.int .i64 k3) W) (tmps : Array Value) (h2 : tmps.getD 2 undef = .pointer (some ⟨w0 + 1, 0, none⟩)) (h3 : tmps.getD 3 undef = .pointer (some ⟨w0 + 1 + 1, 0, none⟩)) (h4 : tmps.getD 4 undef = .pointer (some ⟨w0 + 1 + 1 + 1, 0, none⟩)) :
    (results Try.f11 tmps).run Try.prog W = .ok (.tuple #[v1, .int .i64 k2, .int .i64 k3]) W := by
  have y1 : W.cell? ⟨w0 + 1, 0, none⟩ = some v1 := cell_of_blk (cs := [_]) h.h1 0
  have y2 : W.cell? ⟨w0 + 1 + 1, 0, none⟩ = some (.int .i64 k2) := cell_of_blk (cs := [_]) h.h2 0
  have y3 : W.cell? ⟨w0 + 1 + 1 + 1, 0, none⟩ = some (.int .i64 k3) := cell_of_blk (cs := [_]) h.h3 0
  have g2 : tmps[2]?.getD undef = .pointer (some ⟨w0 + 1, 0, none⟩) := by simpa using h2
  have g3 : tmps[3]?.getD undef = .pointer (some ⟨w0 + 1 + 1, 0, none⟩) := by simpa using h3
  have g4 : tmps[4]?.getD undef = .pointer (some ⟨w0 + 1 + 1 + 1, 0, none⟩) := by simpa using h4
  simp [results, Try.results11, asAddr, g2, g3, g4, go_sem, y1, y2, y3]
theorem three_same {W : World} {D : Nat} (w0 : Nat) (u1 u2 u3 : Value) (hK : W.heap[D]? = some (.deferred (some []))) :
    (((W.setCell ⟨w0 + 1, 0, none⟩ u1).setCell ⟨w0 + 1 + 1, 0, none⟩ u2).setCell ⟨w0 + 1 + 1 + 1, 0, none⟩ u3).drew.heap[D]? = some (.deferred (some [])) :=
  KeepsOthers.same ((((KeepsOthers.setCell W _ _).trans (KeepsOthers.setCell _ _ _)).trans (KeepsOthers.setCell _ _ _)).trans (KeepsOthers.drew _)) D _ hK rfl
theorem mkb_size (l : Bytes) : (mkb l).size = l.length := by rw [← bl_length, bl_mkb]
set_option maxRecDepth 100000 in
set_option maxHeartbeats 4000000 in
theorem lex_of (F : Fence) (HF : Hid (F = Fence.wide)) (n : Nat) (hn : 3 ≤ n) (s : ByteArray) (hs : s.size ≤ 1000000) (w : World) :
    CallsIn F n Try.prog 11 #[.string s] w fun e W' => ∃ v, e = .returned (.tuple #[v, .int .i64 (lexL (bl s)).at_, .int .i64 (lexL (bl s)).err]) ∧ W'.ownsRow w.heap.size 31 4 v (lexL (bl s)).toks.length (tokCells (lexL (bl s)).toks) ∧ Below w.heap.size w W' := by
  have h1 : 1 ≤ n := by omega
  have hro : F.round = none := by rw [HF.out]; rfl
  have f1 : F.fn 11 := by rw [HF.out]; trivial
  have f2 : F.fn 19 := by rw [HF.out]; trivial
  have f3 : F.fn 24 := by rw [HF.out]; trivial
  have f4 : F.fn 18 := by rw [HF.out]; trivial
  obtain ⟨i0, hi, hz0, hz1, hz2⟩ := info_parts infoTok
  have hfacts := rest_facts (bl s) _ (skipN (bl s) 0) (Nat.le_refl _) (skipN_le (Nat.zero_le _))
  rw [← eachL_eq, bl_length] at hfacts
  have HFA := Lib.hid hfacts
  have hN : (eachL (bl s)).1.length ≤ 1000000 := by have := hfacts.2.2.2; omega
  have hsk := skipN_le (l := bl s) (a := 0) (by omega)
  rw [bl_length] at hsk
  clear hfacts
  refine callsIn_of_wp_marks Try.func11 rfl f1 ?_ hro
  simp only [Try.ntmps11, List.size_toArray, List.length_cons, List.length_nil, Nat.reduceAdd, Nat.reduceSub, Array.replicate_succ, Array.replicate_zero, List.push_toArray, List.append_toArray, List.nil_append, List.cons_append]
  gi_wp2_with (first | (gi_at_call 19; refine (each_in F HF (n - 1) s _).mono ?_; rintro e w' ⟨rfl, rfl⟩) | (gi_at_call 18; refine (callsIn_of HF (skip_any s 0 _ hs (by omega))).mono ?_; rintro e w' ⟨rfl, rfl⟩))
  obtain ⟨W0, hW0⟩ : ∃ W0, ((((((w.alloc (.cells #[.string s] 9 (0, 0))).alloc (.cells #[.slice none 0 0] 26 (0, 0))).alloc (.cells #[.int .i64 0] 3 (0, 0))).alloc (.cells #[.int .i64 0] 27 (0, 0))).alloc (.cells #[.slice none 0 0] 26 (0, 0))).alloc (.cells #[.int .i64 (skipN (bl s) 0)] 3 (0, 0))).alloc (.cells #[.string s] 9 (0, 0)) = W0 := ⟨_, rfl⟩
  have q0 : W0.heap[w.heap.size]? = some (.cells #[.string s] 9 (0, 0)) := by
    have := alloc_new (w) (.cells #[.string s] 9 (0, 0))
    try simp only [World.size_alloc] at this
    rw [← hW0]
    exact alloc_old (alloc_old (alloc_old (alloc_old (alloc_old (alloc_old (this) _) _) _) _) _) _
  have q1 : W0.heap[w.heap.size + 1]? = some (.cells #[.slice none 0 0] 26 (0, 0)) := by
    have := alloc_new (w.alloc (.cells #[.string s] 9 (0, 0))) (.cells #[.slice none 0 0] 26 (0, 0))
    try simp only [World.size_alloc] at this
    rw [← hW0]
    exact alloc_old (alloc_old (alloc_old (alloc_old (alloc_old (this) _) _) _) _) _
  have q2 : W0.heap[w.heap.size + 1 + 1]? = some (.cells #[.int .i64 0] 3 (0, 0)) := by
    have := alloc_new ((w.alloc (.cells #[.string s] 9 (0, 0))).alloc (.cells #[.slice none 0 0] 26 (0, 0))) (.cells #[.int .i64 0] 3 (0, 0))
    try simp only [World.size_alloc] at this
    rw [← hW0]
    exact alloc_old (alloc_old (alloc_old (alloc_old (this) _) _) _) _
  have q3 : W0.heap[w.heap.size + 1 + 1 + 1]? = some (.cells #[.int .i64 0] 27 (0, 0)) := by
    have := alloc_new (((w.alloc (.cells #[.string s] 9 (0, 0))).alloc (.cells #[.slice none 0 0] 26 (0, 0))).alloc (.cells #[.int .i64 0] 3 (0, 0))) (.cells #[.int .i64 0] 27 (0, 0))
    try simp only [World.size_alloc] at this
    rw [← hW0]
    exact alloc_old (alloc_old (alloc_old (this) _) _) _
  have q4 : W0.heap[w.heap.size + 1 + 1 + 1 + 1]? = some (.cells #[.slice none 0 0] 26 (0, 0)) := by
    have := alloc_new ((((w.alloc (.cells #[.string s] 9 (0, 0))).alloc (.cells #[.slice none 0 0] 26 (0, 0))).alloc (.cells #[.int .i64 0] 3 (0, 0))).alloc (.cells #[.int .i64 0] 27 (0, 0))) (.cells #[.slice none 0 0] 26 (0, 0))
    try simp only [World.size_alloc] at this
    rw [← hW0]
    exact alloc_old (alloc_old (this) _) _
  have q5 : W0.heap[w.heap.size + 1 + 1 + 1 + 1 + 1]? = some (.cells #[.int .i64 (skipN (bl s) 0)] 3 (0, 0)) := by
    have := alloc_new (((((w.alloc (.cells #[.string s] 9 (0, 0))).alloc (.cells #[.slice none 0 0] 26 (0, 0))).alloc (.cells #[.int .i64 0] 3 (0, 0))).alloc (.cells #[.int .i64 0] 27 (0, 0))).alloc (.cells #[.slice none 0 0] 26 (0, 0))) (.cells #[.int .i64 (skipN (bl s) 0)] 3 (0, 0))
    try simp only [World.size_alloc] at this
    rw [← hW0]
    exact alloc_old (this) _
  have q6 : W0.heap[w.heap.size + 1 + 1 + 1 + 1 + 1 + 1]? = some (.cells #[.string s] 9 (0, 0)) := by
    have := alloc_new ((((((w.alloc (.cells #[.string s] 9 (0, 0))).alloc (.cells #[.slice none 0 0] 26 (0, 0))).alloc (.cells #[.int .i64 0] 3 (0, 0))).alloc (.cells #[.int .i64 0] 27 (0, 0))).alloc (.cells #[.slice none 0 0] 26 (0, 0))).alloc (.cells #[.int .i64 (skipN (bl s) 0)] 3 (0, 0))) (.cells #[.string s] 9 (0, 0))
    try simp only [World.size_alloc] at this
    rw [← hW0]
    exact this
  have hsz : W0.heap.size = w.heap.size + 7 := by rw [← hW0]; simp
  have hbel : Below w.heap.size w W0 := by rw [← hW0]; exact bl_alloc (bl_alloc (bl_alloc (bl_alloc (bl_alloc (bl_alloc (bl_alloc (Below.refl _ _) _) _) _) _) _) _) _
  rw [hW0]
  clear hW0
  refine wpIn_rangeFunc_ownH hro h1 (gf := 24) (lb := #[.pointer (some ⟨w.heap.size + 1 + 1 + 1 + 1 + 1 + 1, 0, none⟩)]) rfl f3 (enters_of Try.func24 (by kernel_rfl) rfl)
    (each_stops F HF (n - 1) (by omega) _ s hs W0 q6) (fun h k => h.trans k) (keepsToks_put W0) (Below.refl _ _) (fun _ => rfl)
    (fun pre W => LexI w.heap.size s.size s pre W ∧ Below w.heap.size w W)
    (fun c pre W => LexX w.heap.size s.size s c pre W ∧ Below w.heap.size w W)
    (OwnFrom.and (lexI_from _ _ _ _) (ownFrom_below (Nat.le_refl _) (by omega)))
    (fun c => OwnFrom.and (lexX_from _ _ _ _ c) (ownFrom_below (Nat.le_refl _) (by omega)))
    ⟨⟨⟨_, q4, ⟨rfl, .inl ⟨rfl, rfl⟩⟩, .inl rfl⟩, q5, ⟨q0, q1, q2, q3⟩, Nat.zero_le _⟩, hbel⟩
    (fun x a' W => ∃ Bx, W.heap[Bx]? = some (.cells x.1.cells.toArray 31 (0, 0)) ∧ a' = { tmps := #[.string s, .pointer (some ⟨w.heap.size, 0, none⟩), .pointer (some ⟨w.heap.size + 1, 0, none⟩), .pointer (some ⟨w.heap.size + 1 + 1, 0, none⟩), .pointer (some ⟨w.heap.size + 1 + 1 + 1, 0, none⟩), .pointer (some ⟨w.heap.size + 1 + 1 + 1 + 1, 0, none⟩), .pointer (some ⟨w.heap.size + 1 + 1 + 1 + 1 + 1, 0, none⟩), .pointer (some ⟨Bx, 0, none⟩), .string s, .int .i64 (skipN (bl s) 0), .string s, .func (.func 24) #[] #[.pointer (some ⟨w.heap.size + 1 + 1 + 1 + 1 + 1 + 1, 0, none⟩)], .agg x.1.cells.toArray, undef, undef, undef, undef, undef, undef, undef, undef, undef, undef, undef, undef, undef, undef, undef, undef, undef, undef, undef, undef, undef, undef, undef, undef, undef], defers := [] })
    ?ax ?assign ?body ?done ?stop
  case ax =>
    rintro x a' _ W W' row ⟨Bx, h1, h2⟩ hg hr
    exact ⟨Bx, blk_from _ Bx _ _ _ () W W' row h1 hg hr, h2⟩
  case assign =>
    rintro l pre ⟨⟨k, a, t, m⟩, hx⟩ W K hi hK
    simp only [Tok.cells] at hK ⊢
    gi_wp2
    exact hK _ _ ((KeepsOthers.alloc _ _).from _) (KeepsToks.of_below (bl_alloc (Below.refl _ _) _)) ⟨(lexI_from 0 _ _ _).alloc _ hi.1, bl_alloc hi.2 _⟩ ⟨W.heap.size, alloc_new W _, rfl⟩
  case body =>
    rintro l pre ⟨⟨k, a, t, m⟩, hx⟩ a' W hl hr ⟨⟨⟨v, hv, hrow, hnil⟩, hat, hB, h200⟩, hbw⟩ ⟨Bx, hBx, rfl⟩ hlt
    have c0 : W.cell? ⟨w.heap.size + 1 + 1 + 1 + 1, 0, none⟩ = some v := cell_of_blk (cs := [v]) hv 0
    have hle := hbw.size
    have x0 : W.cell? ⟨Bx, 0, none⟩ = some (.int .i64 k) := cell_of_blk (cs := Tok.cells ⟨k, a, t, m⟩) hBx 0
    have x1 : W.cell? ⟨Bx, 1, none⟩ = some (.int .i64 a) := cell_of_blk (cs := Tok.cells ⟨k, a, t, m⟩) hBx 1
    have x2 : W.cell? ⟨Bx, 2, none⟩ = some (.string (mkb t)) := cell_of_blk (cs := Tok.cells ⟨k, a, t, m⟩) hBx 2
    have x3 : W.cell? ⟨Bx, 3, none⟩ = some (.int .i64 m) := cell_of_blk (cs := Tok.cells ⟨k, a, t, m⟩) hBx 3
    have HBX := Lib.hid hBx
    have HR := Lib.hid hr
    clear hBx hr q0 q1 q2 q3 q4 q5 q6 hbel
    obtain ⟨A, cv, rfl⟩ := own_form hrow
    have HROW := Lib.hid hrow
    have HV := Lib.hid hv
    have HAT := Lib.hid hat
    have HB := Lib.hid hB
    clear hrow hv hat hB
    by_cases h20 : pre.length = 200
    · have d1 : ((pre.length : Int) == 200) = true := by rw [h20]; rfl
      have H20 := Lib.hid h20
      have y1 : W.cell? ⟨w.heap.size + 1, 0, none⟩ = some (.slice none 0 0) := cell_of_blk (cs := [_]) HB.out.h1 0
      have y2 : W.cell? ⟨w.heap.size + 1 + 1, 0, none⟩ = some (.int .i64 0) := cell_of_blk (cs := [_]) HB.out.h2 0
      have y3 : W.cell? ⟨w.heap.size + 1 + 1 + 1, 0, none⟩ = some (.int .i64 0) := cell_of_blk (cs := [_]) HB.out.h3 0
      have z1 : W.frozen? ⟨w.heap.size + 1, 0, none⟩ = false := free_of_blk (cs := [_]) HB.out.h1 0
      have z2 : W.frozen? ⟨w.heap.size + 1 + 1, 0, none⟩ = false := free_of_blk (cs := [_]) HB.out.h2 0
      have z3 : W.frozen? ⟨w.heap.size + 1 + 1 + 1, 0, none⟩ = false := free_of_blk (cs := [_]) HB.out.h3 0
      clear h20
      gi_wp2_with fail
      gi_region
      all_goals
        gi_wp2
        refine ⟨(((((KeepsOthers.setCell _ _ _).trans (KeepsOthers.setCell _ _ _)).trans (KeepsOthers.setCell _ _ _)).trans (KeepsOthers.drew _))).from _, ⟨rfl, by simp [H20.out], ?_⟩, ?_⟩
        rotate_left
        · exact bl_drew (bl_set (bl_set (bl_set hbw ⟨w.heap.size + 1, 0, none⟩ _ (by show w.heap.size ≤ w.heap.size + 1; omega)) ⟨w.heap.size + 1 + 1, 0, none⟩ _ (by show w.heap.size ≤ w.heap.size + 1 + 1; omega)) ⟨w.heap.size + 1 + 1 + 1, 0, none⟩ _ (by show w.heap.size ≤ w.heap.size + 1 + 1 + 1; omega))
        have := lexB_set HB.out (.slice none 0 0) (.int .i64 a) (.int .i64 12)
        simpa using this
    · have d1 : ((pre.length : Int) == 200) = false := by simp; omega
      have hlt2 : pre.length < 200 := by omega
      have hxl : a + (mkb t).size ≤ s.size := by rw [mkb_size]; exact hx
      have hBL : Bx ≠ w.heap.size + 1 + 1 + 1 + 1 := by
        rintro rfl
        have := HBX.out.symm.trans HV.out
        simp at this
      have hB5 : Bx ≠ w.heap.size + 1 + 1 + 1 + 1 + 1 := by
        rintro rfl
        have := HBX.out.symm.trans HAT.out
        simp at this
      have h12 : 1 ≤ n - 1 - 1 := by omega
      gi_wp2_with (first | (gi_at_call 18; refine (CallsIn.inRound l (callsIn_of HF (skip_int s _ _ hs (by omega) (by omega)))).mono ?_; rintro e w' ⟨rfl, rfl⟩) | (gi_at_builtin; refine wpListIn_append_apart _ rfl _ _ 26 rfl w.heap.size 31 i0 _ 4 40 Try.underlying26 hi hz0 hz1 hz2 rfl (by decide) (.slice A pre.length cv) _ _ rfl (HROW.out.alloc _) ⟨W.heap.size, 0, none⟩ 1 1 [.int .i64 k, .int .i64 a, .string (mkb t), .int .i64 m] rfl rfl (cells_new_at _ _ rfl _ _) (by simp [Value.oneCell']) (by simp only [maxLen]; omega) (by omega) (by simp; omega) ?_; intro v' w1 row hown' hgrow hrw; obtain ⟨g', cap', rfl⟩ := ownsRow_succ hown'; have hap := appended HV.out HROW.out hnil (by omega) hle hown' hgrow hrw; have hc1 : w1.cell? ⟨w.heap.size + 1 + 1 + 1 + 1, 0, none⟩ = some (.slice A pre.length cv) := cell_of_blk (cs := [_]) hap.box1 0; have hf1 : w1.frozen? ⟨w.heap.size + 1 + 1 + 1 + 1, 0, none⟩ = false := free_of_blk (cs := [_]) hap.box1 0; have e0 := hap.rest1 _ _ _ _ HB.out.h0 (by decide); have e5 := hap.rest1 _ _ _ _ HAT.out (by decide); have eB := (hap.toks1 _ _ _ _ HBX.out (.inr ⟨rfl, rfl⟩)).trans HBX.out; have m0 : w1.cell? ⟨w.heap.size, 0, none⟩ = some (.string s) := cell_of_blk (cs := [_]) e0 0; have m5 := cell_of_blk (cs := [_]) e5 0; have g5 : w1.frozen? ⟨w.heap.size + 1 + 1 + 1 + 1 + 1, 0, none⟩ = false := free_of_blk (cs := [_]) e5 0; have n1 : w1.cell? ⟨Bx, 1, none⟩ = some (.int .i64 a) := cell_of_blk (cs := Tok.cells ⟨k, a, t, m⟩) eB 1; have n2 : w1.cell? ⟨Bx, 2, none⟩ = some (.string (mkb t)) := cell_of_blk (cs := Tok.cells ⟨k, a, t, m⟩) eB 2; simp only [List.getElem?_cons_zero] at m5; have HAP := Lib.hid hap; clear hap e0 e5 eB hown' hgrow hrw))
      have hap := HAP.out
      have e5 := hap.rest2 _ _ _ _ HAT.out (by decide) (by omega)
      refine ⟨(hap.others.trans (KeepsOthers.setCell _ _ _)).from _, hap.toks.trans (KeepsToks.set _ _ _ e5 (by rintro (h | ⟨h, _⟩) <;> exact absurd h (by decide))), ⟨⟨_, setCell_other hap.box (by omega) _, ?_, .inr (by simp)⟩, ?_, ⟨setCell_other (hap.rest2 _ _ _ _ HB.out.h0 (by decide) (by omega)) (by omega) _, setCell_other (hap.rest2 _ _ _ _ HB.out.h1 (by decide) (by omega)) (by omega) _, setCell_other (hap.rest2 _ _ _ _ HB.out.h2 (by decide) (by omega)) (by omega) _, setCell_other (hap.rest2 _ _ _ _ HB.out.h3 (by decide) (by omega)) (by omega) _⟩, by simp; omega⟩, ?_⟩
      · have h4 := hap.row
        rw [List.length_append, List.map_append, tokCells_append]
        refine ownsRow_kept (S := fun b => b = w.heap.size + 1 + 1 + 1 + 1 + 1) h4 ((Only.refl _ _).setCell _ _ (.inl rfl)) ?_
        rintro i rfl hk
        exact absurd (own_type h4 hk e5) (by decide)
      · have := setCell_same (cs := [_]) (i := 0) e5 (.int .i64 (skipN (bl s) (a + (mkb t).size) : Nat))
        rw [List.map_append, List.map_cons, List.map_nil, behind_snoc]
        rw [mkb_size] at this ⊢
        exact this
      · exact bl_set (hbw.trans hap.below) ⟨w.heap.size + 1 + 1 + 1 + 1 + 1, 0, none⟩ _ (by show w.heap.size ≤ w.heap.size + 1 + 1 + 1 + 1 + 1; omega)
  case done =>
    rintro D ys W hD hys ⟨⟨⟨v, hv, hrow, hnil⟩, hat, hB, h200⟩, hbw⟩ hK
    have hle := hbw.size
    have hfa := HFA.out
    rw [hys, ← hfa.1] at hat
    have hyl : ys.length = (eachL (bl s)).1.length := by rw [← hys, List.length_map]
    have c0 : W.cell? ⟨w.heap.size + 1 + 1 + 1 + 1, 0, none⟩ = some v := cell_of_blk (cs := [v]) hv 0
    have c5 : W.cell? ⟨w.heap.size + 1 + 1 + 1 + 1 + 1, 0, none⟩ = some (.int .i64 (eachL (bl s)).2) := cell_of_blk (cs := [_]) hat 0
    have m0 : W.cell? ⟨w.heap.size, 0, none⟩ = some (.string s) := cell_of_blk (cs := [_]) hB.h0 0
    have y1 : W.cell? ⟨w.heap.size + 1, 0, none⟩ = some (.slice none 0 0) := cell_of_blk (cs := [_]) hB.h1 0
    have y2 : W.cell? ⟨w.heap.size + 1 + 1, 0, none⟩ = some (.int .i64 0) := cell_of_blk (cs := [_]) hB.h2 0
    have y3 : W.cell? ⟨w.heap.size + 1 + 1 + 1, 0, none⟩ = some (.int .i64 0) := cell_of_blk (cs := [_]) hB.h3 0
    have z1 : W.frozen? ⟨w.heap.size + 1, 0, none⟩ = false := free_of_blk (cs := [_]) hB.h1 0
    have z2 : W.frozen? ⟨w.heap.size + 1 + 1, 0, none⟩ = false := free_of_blk (cs := [_]) hB.h2 0
    have z3 : W.frozen? ⟨w.heap.size + 1 + 1 + 1, 0, none⟩ = false := free_of_blk (cs := [_]) hB.h3 0
    have hend := hfa.2.1
    have hlex : lexL (bl s) = if (eachL (bl s)).2 < s.size then ⟨[], (eachL (bl s)).2, 10⟩ else ⟨(eachL (bl s)).1, s.size, 0⟩ := by
      unfold lexL
      rw [if_neg (by omega), bl_length]
    have HK := Lib.hid hK
    have HLEX := Lib.hid hlex
    have HROW := Lib.hid hrow
    have HB := Lib.hid hB
    have HYL := Lib.hid hyl
    have HYS := Lib.hid hys
    clear hK hlex hrow hB hyl hys hat hfa HFA q0 q1 q2 q3 q4 q5 q6
    generalize (eachL (bl s)).2 = E at *
    by_cases hE : E < s.size
    · have iE : (E : Int) < s.size := by omega
      gi_wp2_with fail
      gi_region
      all_goals
        gi_wp2
        have hB2 := lexB_set HB.out (.slice none 0 0) (.int .i64 E) (.int .i64 10)
        have hK2 := three_same w.heap.size (.slice none 0 0) (.int .i64 E) (.int .i64 10) HK.out
        have hB3 := (lexB_from 0 _ _ _ _ _).putObj (s := ()) (.deferred none) hB2 (Nat.zero_le D) hK2 rfl
        refine ⟨by simp, .inl ⟨_, _, rfl, run_takeDeferred hK2, ?_⟩⟩
        refine ⟨_, lex_results hB3 _ rfl rfl rfl, (.slice none 0 0), ?_, ?_, ?_⟩
        · rw [HLEX.out, if_pos hE]
          try rfl
        · rw [HLEX.out, if_pos hE]
          exact ⟨rfl, .inl ⟨rfl, rfl⟩⟩
        · refine Below.trans (bl_drew (bl_set (bl_set (bl_set hbw ⟨w.heap.size + 1, 0, none⟩ _ (by show w.heap.size ≤ w.heap.size + 1; omega)) ⟨w.heap.size + 1 + 1, 0, none⟩ _ (by show w.heap.size ≤ w.heap.size + 1 + 1; omega)) ⟨w.heap.size + 1 + 1 + 1, 0, none⟩ _ (by show w.heap.size ≤ w.heap.size + 1 + 1 + 1; omega))) (belowK_b (w := w) (Nat.le_refl _) _ D _ _ (by omega) hK2 rfl rfl)
    · have iE : ¬ (E : Int) < s.size := by omega
      obtain ⟨A, cv, rfl⟩ := own_form HROW.out
      gi_wp2_with fail
      gi_region
      all_goals
        gi_wp2
        have hB2 := lexB_set HB.out (.slice A ys.length cv) (.int .i64 s.size) (.int .i64 0)
        have hK2 := three_same w.heap.size (.slice A ys.length cv) (.int .i64 s.size) (.int .i64 0) HK.out
        have hB3 := (lexB_from 0 _ _ _ _ _).putObj (s := ()) (.deferred none) hB2 (Nat.zero_le D) hK2 rfl
        refine ⟨by simp, .inl ⟨_, _, rfl, run_takeDeferred hK2, ?_⟩⟩
        refine ⟨_, lex_results hB3 _ rfl rfl rfl, (.slice A ys.length cv), ?_, ?_, ?_⟩
        · rw [HLEX.out, if_neg hE]
          try rfl
        · rw [HLEX.out, if_neg hE]
          rw [← HYL.out, ← HYS.out]
          refine row_from 0 _ _ _ _ _ _ (ownsRow_kept (S := fun b => b = w.heap.size + 1 ∨ b = w.heap.size + 1 + 1 ∨ b = w.heap.size + 1 + 1 + 1) HROW.out (((((Only.refl _ _).setCell _ _ (.inl (.inl rfl))).setCell _ _ (.inl (.inr (.inl rfl)))).setCell _ _ (.inl (.inr (.inr rfl)))).drew) ?_) (grownBy_putObj' _ D (.deferred none)) (fun r e => by cases e; exact ⟨Nat.zero_le _, _, hK2, rfl⟩)
          rintro i (rfl | rfl | rfl) hk
          · exact absurd (own_type HROW.out hk HB.out.h1) (by decide)
          · exact absurd (own_type HROW.out hk HB.out.h2) (by decide)
          · exact absurd (own_type HROW.out hk HB.out.h3) (by decide)
        · refine Below.trans (bl_drew (bl_set (bl_set (bl_set hbw ⟨w.heap.size + 1, 0, none⟩ _ (by show w.heap.size ≤ w.heap.size + 1; omega)) ⟨w.heap.size + 1 + 1, 0, none⟩ _ (by show w.heap.size ≤ w.heap.size + 1 + 1; omega)) ⟨w.heap.size + 1 + 1 + 1, 0, none⟩ _ (by show w.heap.size ≤ w.heap.size + 1 + 1 + 1; omega))) (belowK_b (w := w) (Nat.le_refl _) _ D _ _ (by omega) hK2 rfl rfl)
  case stop =>
    rintro D c pre W hD ⟨rest, hrest⟩ ⟨⟨rfl, h201, hB⟩, hbw⟩ hK
    have hle := hbw.size
    have hlen : (eachL (bl s)).1.length = 201 + rest.length := by rw [← hrest]; simp [h201]
    have hat : ((eachL (bl s)).1.getD 200 Tok.zero) = (pre.map (·.1)).getLastD Tok.zero := by
      rw [← hrest, List.getD_eq_getElem?_getD, List.getElem?_append_left (by simp [h201]), List.getLastD_eq_getLast?, List.getLast?_eq_getElem?]
      simp [h201]
    have hlex : lexL (bl s) = ⟨[], ((pre.map (·.1)).getLastD Tok.zero).at_, 12⟩ := by
      unfold lexL
      rw [if_pos (by omega), hat]
    have HLEX := Lib.hid hlex
    have HB := Lib.hid hB
    have HK := Lib.hid hK
    generalize ((pre.map (·.1)).getLastD Tok.zero).at_ = E at *
    clear hlex hK hrest hlen hat HFA q0 q1 q2 q3 q4 q5 q6
    gi_wp2
    have hB3 := (lexB_from 0 _ _ _ _ _).putObj (s := ()) (.deferred none) HB.out (Nat.zero_le D) HK.out rfl
    refine ⟨by simp, .inl ⟨_, _, rfl, run_takeDeferred HK.out, ?_⟩⟩
    refine ⟨_, lex_results hB3 _ rfl rfl rfl, .slice none 0 0, ?_, ?_, ?_⟩
    · rw [HLEX.out]; rfl
    · rw [HLEX.out]; exact ⟨rfl, .inl ⟨rfl, rfl⟩⟩
    · exact Below.trans hbw (belowK_b (w := w) (Nat.le_refl _) _ D _ _ (by omega) HK.out rfl rfl)
theorem lex_any (s : ByteArray) (hs : s.size ≤ 1000000) (w : World) :
    Calls Try.prog 11 #[.string s] w fun e W' => ∃ v, e = .returned (.tuple #[v, .int .i64 (lexL (bl s)).at_, .int .i64 (lexL (bl s)).err]) ∧ W'.ownsRow w.heap.size 31 4 v (lexL (bl s)).toks.length (tokCells (lexL (bl s)).toks) ∧ Below w.heap.size w W' :=
  callsIn_wide.1 (lex_of Fence.wide (Lib.hid rfl) 3 (by omega) s hs w)
end Go.Proofs.Ytkioabjdoccfeaa
