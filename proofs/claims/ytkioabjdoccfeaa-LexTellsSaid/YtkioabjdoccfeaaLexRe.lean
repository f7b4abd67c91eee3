/- Chapter 2: the document's answer: Each, Lex, Same; LexTells. -/
import Derived.Test.YtkioabjdoccfeaaLexRn
namespace Go.Proofs.Ytkioabjdoccfeaa
open Go.RowKit
set_option linter.unusedVariables false
set_option linter.unusedSimpArgs false

def intAt (w : World) (b i : Nat) : Nat := match w.cell? ⟨b, i, none⟩ with
  | some (.int _ n) => n.toNat
  | _ => 0
theorem intAt_of {w : World} {b i n : Nat} (h : w.cell? ⟨b, i, none⟩ = some (.int .i64 n)) : intAt w b i = n := by
  unfold intAt
  rw [h]
  simp
theorem allInfo : (Try.prog.info? 42).map (·.size) = some 2 := by kernel_rfl
theorem runN_cons_yes {q : UInt8 → Bool} {c : UInt8} {r : Bytes} (h : q c = true) : runN q (c :: r) = runN q r + 1 := by
  unfold runN
  rw [List.takeWhile_cons, if_pos h, List.length_cons]
theorem runN_cons_no {q : UInt8 → Bool} {c : UInt8} {r : Bytes} (h : q c = false) : runN q (c :: r) = 0 := by
  unfold runN
  rw [List.takeWhile_cons, if_neg (by rw [h]; decide)]
  rfl
theorem skip_same {l : Bytes} {p : Nat} (hp : p < l.length) (hb : isBlank (l[p]) = true) : skipN l (p + 1) = skipN l p := by
  have h1 : l.drop p = l[p] :: l.drop (p + 1) := List.drop_eq_getElem_cons hp
  have h2 := runN_cons_yes (q := isBlank) (r := l.drop (p + 1)) hb
  rw [← h1] at h2
  unfold skipN
  omega
theorem skip_none {l : Bytes} {p : Nat} (hp : p < l.length) (hb : isBlank (l[p]) = false) : skipN l p = p := by
  have h1 : l.drop p = l[p] :: l.drop (p + 1) := List.drop_eq_getElem_cons hp
  have h2 := runN_cons_no (q := isBlank) (r := l.drop (p + 1)) hb
  rw [← h1] at h2
  unfold skipN
  omega
theorem rtok_eq (s : ByteArray) (a : Nat) : rtok s a (nextH ((bl s).drop a)) = (tokOf (bl s) a).cells := by
  have h : s.extract a (a + (nextH ((bl s).drop a)).len) = mkb (((bl s).drop a).take (nextH ((bl s).drop a)).len) := bl_inj (by rw [bl_extract, bl_mkb, List.drop_take, Nat.add_sub_cancel_left])
  unfold rtok
  rw [h]
  rfl
/-- The document's own tokens, as they are gathered: R the result's block, A the local's. -/
structure AllAt (lo R A : Nat) (s : ByteArray) (p : Nat) (pre : List Tok) (v : Value) (W : World) : Prop where
  hR : W.heap[R]? = some (.cells #[.slice none 0 0, .int .i64 0] 42 (0, 0))
  hA : W.heap[A]? = some (.cells #[v, .int .i64 p] 42 (0, 0))
  row : W.ownsRow lo 31 4 v pre.length (tokCells pre)
  ne : R ≠ A
theorem AllAt.c1 {lo R A : Nat} {s : ByteArray} {p : Nat} {pre : List Tok} {v : Value} {W : World} (h : AllAt lo R A s p pre v W) : W.cell? ⟨A, 1, none⟩ = some (.int .i64 p) := cell_of_blk (cs := [v, .int .i64 p]) h.hA 1
theorem AllAt.c0 {lo R A : Nat} {s : ByteArray} {p : Nat} {pre : List Tok} {v : Value} {W : World} (h : AllAt lo R A s p pre v W) : W.cell? ⟨A, 0, none⟩ = some v := cell_of_blk (cs := [v, .int .i64 p]) h.hA 0
theorem AllAt.fA {lo R A : Nat} {s : ByteArray} {p : Nat} {pre : List Tok} {v : Value} {W : World} (h : AllAt lo R A s p pre v W) (i : Nat) : W.frozen? ⟨A, i, none⟩ = false := free_of_blk (cs := [v, .int .i64 p]) h.hA i
theorem AllAt.fR {lo R A : Nat} {s : ByteArray} {p : Nat} {pre : List Tok} {v : Value} {W : World} (h : AllAt lo R A s p pre v W) (i : Nat) : W.frozen? ⟨R, i, none⟩ = false := free_of_blk (cs := [_, _]) h.hR i
theorem AllAt.r0 {lo R A : Nat} {s : ByteArray} {p : Nat} {pre : List Tok} {v : Value} {W : World} (h : AllAt lo R A s p pre v W) : W.cell? ⟨R, 0, none⟩ = some (.slice none 0 0) := cell_of_blk (cs := [_, _]) h.hR 0
theorem AllAt.r1 {lo R A : Nat} {s : ByteArray} {p : Nat} {pre : List Tok} {v : Value} {W : World} (h : AllAt lo R A s p pre v W) : W.cell? ⟨R, 1, none⟩ = some (.int .i64 0) := cell_of_blk (cs := [_, _]) h.hR 1
theorem AllAt.below {lo R A : Nat} {s : ByteArray} {p : Nat} {pre : List Tok} {v : Value} {W W' : World} (h : AllAt lo R A s p pre v W) (hb : Below W.heap.size W W') : AllAt lo R A s p pre v W' :=
  ⟨(hb.block _ (block_lt h.hR)).trans h.hR, (hb.block _ (block_lt h.hA)).trans h.hA, ownsRow_kept (S := fun _ => False) h.row (Only.of_below hb) (fun i h => h.elim), h.ne⟩
theorem AllAt.setP {lo R A : Nat} {s : ByteArray} {p : Nat} {pre : List Tok} {v : Value} {W : World} (h : AllAt lo R A s p pre v W) (p' : Nat) : AllAt lo R A s p' pre v (W.setCell ⟨A, 1, none⟩ (.int .i64 p')) := by
  refine ⟨setCell_other h.hR h.ne _, setCell_same (cs := [v, .int .i64 p]) (i := 1) h.hA _, ?_, h.ne⟩
  refine ownsRow_kept (S := fun b => b = A) h.row ((Only.refl _ _).setCell _ _ (.inl rfl)) ?_
  rintro i rfl hk
  exact absurd (own_type h.row hk h.hA) (by decide)
/-- Behind an append of a token. -/
theorem AllAt.grown {lo R A : Nat} {s : ByteArray} {p : Nat} {pre : List Tok} {v v' : Value} {W w1 : World} {t : Tok} (h : AllAt lo R A s p pre v W) (hown : w1.ownsRow lo 31 4 v' (pre.length + 1) (tokCells pre ++ t.cells)) (hgr : W.grownBy w1 v.ownBlock) :
    w1.heap[A]? = some (.cells #[v, .int .i64 p] 42 (0, 0)) ∧ AllAt lo R A s p (pre ++ [t]) v' (w1.setCell ⟨A, 0, none⟩ v') := by
  have hA1 : w1.heap[A]? = some (.cells #[v, .int .i64 p] 42 (0, 0)) := (hgr.block A (block_lt h.hA) (fun e => absurd (own_type h.row e.symm h.hA) (by decide))).trans h.hA
  have hR1 := (hgr.block R (block_lt h.hR) (fun e => absurd (own_type h.row e.symm h.hR) (by decide))).trans h.hR
  refine ⟨hA1, setCell_other hR1 h.ne _, setCell_same (cs := [v, .int .i64 p]) (i := 0) hA1 _, ?_, h.ne⟩
  rw [List.length_append, tokCells_append]
  have : tokCells [t] = t.cells := by simp [tokCells]
  rw [this]
  refine ownsRow_kept (S := fun b => b = A) hown ((Only.refl _ _).setCell _ _ (.inl rfl)) ?_
  rintro i rfl hk
  exact absurd (own_type hown hk hA1) (by decide)
theorem AllAt.grown_all {lo R A : Nat} {s : ByteArray} {p : Nat} {pre : List Tok} {v v' : Value} {W w1 : World} {t : Tok} {l : List Value} {B : Nat} {x0 x1 x2 x3 : Value} (h : AllAt lo R A s p pre v W) (hown : w1.ownsRow lo 31 4 v' (pre.length + 1) (tokCells pre ++ l)) (hgr : W.grownBy w1 v.ownBlock) (ht : l = t.cells)
    (hB : W.heap[B]? = some (.cells #[x0, x1, x2, x3] 31 (0, 0))) (hlt : ∀ k, v.ownBlock = some k → k < B) :
    AllAt lo R A s p (pre ++ [t]) v' (w1.setCell ⟨A, 0, none⟩ v') ∧ w1.cell? ⟨A, 0, none⟩ = some v ∧ w1.cell? ⟨A, 1, none⟩ = some (.int .i64 p) ∧ w1.frozen? ⟨A, 0, none⟩ = false ∧ w1.frozen? ⟨A, 1, none⟩ = false ∧ w1.cell? ⟨B, 2, none⟩ = some x2 ∧ B ≠ A := by
  subst ht
  obtain ⟨hA1, hg⟩ := h.grown hown hgr
  have hn5 := (hgr.block B (block_lt hB) (fun e => absurd (hlt _ e.symm) (Nat.lt_irrefl _))).trans hB
  refine ⟨hg, cell_of_blk (cs := [_, _]) hA1 0, cell_of_blk (cs := [_, _]) hA1 1, free_of_blk (cs := [_, _]) hA1 0, free_of_blk (cs := [_, _]) hA1 1, cell_of_blk (cs := [_, _, _, _]) hn5 2, ?_⟩
  rintro rfl
  have := hB.symm.trans h.hA
  simp at this
theorem all_end {W : World} {R : Nat} {tmps : Array Value} {v : Value} {p : Nat} {fr : Nat × Nat} (hp : tmps.getD 2 undef = .pointer (some ⟨R, 0, none⟩)) (hg : W.heap[R]? = some (.cells #[v, .int .i64 p] 42 fr)) :
    (results Try.f17 tmps).run Try.prog W = .ok (.agg #[v, .int .i64 p]) W :=
  results_c' (p := 2) rfl _ _ R 42 #[v, .int .i64 p] fr _ hp hg Try.underlying42 rfl (by rw [allInfo]; rfl)
set_option maxRecDepth 100000 in
set_option maxHeartbeats 4000000 in
theorem reach_any (s : ByteArray) (w : World) (hs : s.size ≤ 1000000) :
    Calls Try.prog 17 #[.string s] w fun e w' => ∃ v, e = .returned (.agg #[v, .int .i64 (eachL (bl s)).2]) ∧ w'.ownsRow w.heap.size 31 4 v (eachL (bl s)).1.length (tokCells (eachL (bl s)).1) ∧ Below w.heap.size w w' := by
  obtain ⟨i0, hi, hz0, hz1, hz2⟩ := info_parts infoTok
  have hl := bl_length s
  obtain ⟨ts, E, hE⟩ : ∃ ts E, eachL (bl s) = (ts, E) := ⟨_, _, rfl⟩
  have hfa := each_facts (bl s)
  rw [hE] at hfa ⊢
  have hlen : ts.length ≤ 1000000 := by have := hfa.2.2.2; dsimp only at this; omega
  rw [eachL_eq] at hE
  dsimp only
  have HE := Lib.hid hE
  have HL := Lib.hid hl
  clear hE hl hfa
  go_enter Try.func17, Try.ntmps17
  go_wp2_with fail
  go_loopw [4] (fun _ wr => ∃ (p : Nat) (pre : List Tok) (v : Value), p ≤ s.size ∧ AllAt w.heap.size w.heap.size (w.heap.size + 1) s p pre v wr ∧ Hid (∃ r, restFrom (bl s) (skipN (bl s) p) = (r, E) ∧ pre ++ r = ts) ∧ Below w.heap.size w wr) (fun _ wr => s.size - intAt wr (w.heap.size + 1) 1)
  case atStart =>
    refine ⟨0, [], .slice none 0 0, Nat.zero_le _, ⟨?_, ?_, ⟨rfl, .inl ⟨rfl, rfl⟩⟩, by omega⟩, Lib.hid ⟨ts, HE.out, rfl⟩, bl_alloc (bl_alloc (Below.refl _ _) _) _⟩
    · exact alloc_old (alloc_new w _) _
    · have := alloc_new (w.alloc (.cells #[.slice none 0 0, .int .i64 0] 42)) (.cells #[.slice none 0 0, .int .i64 0] 42)
      simpa using this
  case round =>
    obtain ⟨p, pre, v, hp, hat, hr, hbr⟩ := hrel
    obtain ⟨A, cv, rfl⟩ := own_form hat.row
    have x1 := hat.c1
    have f0 := hat.fA 0
    have f1 := hat.fA 1
    have hm := intAt_of x1
    have HM := Lib.hid hm
    have HAT := Lib.hid hat
    clear hm hat
    by_cases hlt : p < s.size
    · have il : (p : Int) < s.size := by omega
      have hx := bl_get s p hlt
      obtain ⟨b, hb⟩ : ∃ b, isBlank (s[p]) = b := ⟨_, rfl⟩
      have hc := fun w => rblank_any (s[p]) w
      rw [hb] at hc
      have HB := Lib.hid hb
      have HC := Lib.hid hc
      have HX := Lib.hid hx
      clear hb hc hx
      cases b
      · have hsk : skipN (bl s) p = p := skip_none (by rw [HL.out]; exact hlt) (by rw [HX.out]; exact HB.out)
        obtain ⟨r, hr1, hr2⟩ := hr.out
        rw [hsk] at hr1
        have hnx := fun w => rnext_any s p w hs hlt
        have hrt := rtok_eq s p
        have htl := tokOf_len (bl s) p
        have hle := nextH_le ((bl s).drop p)
        rw [List.length_drop, HL.out] at hle
        obtain ⟨K, L, M, hh⟩ : ∃ K L M, nextH ((bl s).drop p) = ⟨K, L, M⟩ := ⟨_, _, _, rfl⟩
        rw [hh] at hnx hrt htl hle
        by_cases hK : K = 0
        · subst hK
          have hnx2 : ∀ w, Calls Try.prog 22 #[.string s, .int .i64 p] w fun e w' => e = .returned (.agg #[.int .i64 0, .int .i64 0, .string ⟨#[]⟩, .int .i64 0]) ∧ Below w.heap.size w w' := hnx
          have hend := rest_none (l := bl s) (a := p) (by rw [hh])
          rw [hend] at hr1
          have HX2 := Lib.hid hnx2
          have HR1 := Lib.hid hr1
          have HR2 := Lib.hid hr2
          clear hnx hnx2 hrt htl hle hh hend hr1 hr2 hsk
          go_wp2_with fail
          refine (HC.out _).mono ?_
          rintro e w' ⟨rfl, rfl⟩
          go_wp2_with fail
          refine (HX2.out _).mono ?_
          rintro e w2 ⟨rfl, hb2⟩
          have hb3 := bl_alloc hb2 (.cells #[.int .i64 0, .int .i64 0, .string ⟨#[]⟩, .int .i64 0] 31)
          have hat3 := HAT.out.below hb3
          have y0 := hat3.c0
          have y1 := hat3.c1
          have z0 := hat3.r0
          have z1 := hat3.r1
          have g0 := hat3.fR 0
          have g1 := hat3.fR 1
          have HA3 := Lib.hid hat3
          have HB3 := Lib.hid hb3
          clear hat3 hb3
          go_wp2_with fail
          have hA4 := setCell_same (cs := [.slice A pre.length cv, .int .i64 0]) (i := 1) (setCell_same (cs := [.slice none 0 0, .int .i64 0]) (i := 0) HA3.out.hR (.slice A pre.length cv)) (.int .i64 p)
          obtain ⟨hr3, hr4⟩ := Prod.mk.inj HR1.out
          have h2 := HR2.out
          rw [← hr3, List.append_nil] at h2
          subst h2 hr4
          refine bodyPost_ret (v := .agg #[.slice A pre.length cv, .int .i64 p]) (all_end rfl hA4) rfl ⟨_, rfl, ?_, bl_set (bl_set (bl_then hbr HB3.out) _ _ (Nat.le_refl _)) _ _ (Nat.le_refl _)⟩
          refine ownsRow_kept (S := fun b => b = w.heap.size) HA3.out.row (((Only.refl (fun b => b = w.heap.size) _).setCell _ _ (.inl rfl)).setCell _ _ (.inl rfl)) ?_
          rintro i rfl hk
          exact absurd (own_type HA3.out.row hk HA3.out.hR) (by decide)
        · have hnx2 : ∀ w, Calls Try.prog 22 #[.string s, .int .i64 p] w fun e w' => e = .returned (.agg #[.int .i64 K, .int .i64 p, .string (s.extract p (p + L)), .int .i64 M]) ∧ Below w.heap.size w w' := by
            intro w
            have := hnx w
            unfold rnext at this
            rw [if_neg hK] at this
            exact this
          have hsome := rest_some (l := bl s) (a := p) (by rw [HL.out]; exact hlt) (by rw [hh]; exact hK)
          rw [hh] at hsome
          dsimp only at hsome
          rw [hsome] at hr1
          have hpos := nextH_pos (l := (bl s).drop p) (by rw [hh]; exact hK)
          rw [hh] at hpos
          have hrt2 : [.int .i64 K, .int .i64 p, .string (s.extract p (p + L)), .int .i64 M] = (tokOf (bl s) p).cells := hrt
          have hLs : (s.extract p (p + L)).size = L := by
            rw [← bl_length, bl_extract, List.drop_take, Nat.add_sub_cancel_left, List.length_take, List.length_drop, HL.out]
            dsimp only at hle
            omega
          generalize s.extract p (p + L) = T at *
          have hTb : p + T.size ≤ s.size := by rw [hLs]; dsimp only at hle; omega
          have hTp : 1 ≤ T.size := by rw [hLs]; exact hpos
          have hpl : pre.length ≤ 1000000 := by
            have := congrArg List.length hr2
            simp at this
            omega
          have d1 : ((K : Int) == 0) = false := by simpa using hK
          have HX2 := Lib.hid hnx2
          have HR1 := Lib.hid hr1
          have HR2 := Lib.hid hr2
          have HRT := Lib.hid hrt2
          have HLS := Lib.hid hLs
          clear hnx hnx2 hrt hrt2 htl hle hh hsome hr1 hr2 hsk hK hLs hpos
          go_wp2_with fail
          refine (HC.out _).mono ?_
          rintro e w' ⟨rfl, rfl⟩
          go_wp2_with fail
          refine (HX2.out _).mono ?_
          rintro e w2 ⟨rfl, hb2⟩
          have hb3 := bl_alloc hb2 (.cells #[.int .i64 K, .int .i64 p, .string T, .int .i64 M] 31)
          have hat3 := HAT.out.below hb3
          have y0 := hat3.c0
          have y1 := hat3.c1
          have hle3 := hbr.size
          have hle4 := hb2.size
          have hat4 := hat3.below (bl_alloc (Below.refl _ _) (.cells #[.int .i64 K, .int .i64 p, .string T, .int .i64 M] 31))
          have hb4 := bl_alloc hb3 (.cells #[.int .i64 K, .int .i64 p, .string T, .int .i64 M] 31)
          have hn3 := alloc_old (alloc_new w2 (.cells #[.int .i64 K, .int .i64 p, .string T, .int .i64 M] 31)) (.cells #[.int .i64 K, .int .i64 p, .string T, .int .i64 M] 31)
          have hrlt : ∀ k, (Value.slice A pre.length cv).ownBlock = some k → k < w2.heap.size := fun k hk => Nat.lt_of_lt_of_le (own_lt HAT.out.row hk) hle4
          have HAT4 := Lib.hid hat4
          have HN3 := Lib.hid hn3
          have HB4 := Lib.hid hb4
          have HRLT := Lib.hid hrlt
          clear hat3 hat4 hn3 hb4 hb3 hb2 hrlt
          have step : ∀ (v' : Value) (w5 : World), w5.ownsRow w.heap.size 31 4 v' (pre.length + 1) (tokCells pre ++ [.int .i64 K, .int .i64 p, .string T, .int .i64 M]) → ((w2.alloc (.cells #[.int .i64 K, .int .i64 p, .string T, .int .i64 M] 31)).alloc (.cells #[.int .i64 K, .int .i64 p, .string T, .int .i64 M] 31)).grownBy w5 (Value.slice A pre.length cv).ownBlock →
              (∃ g' cap', v' = .slice (some ⟨g', 0, none⟩) (pre.length + 1) cap') ∧ Hid (AllAt w.heap.size w.heap.size (w.heap.size + 1) s p (pre ++ [tokOf (bl s) p]) v' (w5.setCell ⟨w.heap.size + 1, 0, none⟩ v')) ∧ w5.cell? ⟨w.heap.size + 1, 0, none⟩ = some (.slice A pre.length cv) ∧ w5.cell? ⟨w.heap.size + 1, 1, none⟩ = some (.int .i64 p) ∧ w5.frozen? ⟨w.heap.size + 1, 0, none⟩ = false ∧ w5.frozen? ⟨w.heap.size + 1, 1, none⟩ = false ∧ w5.cell? ⟨w2.heap.size, 2, none⟩ = some (.string T) ∧ w2.heap.size ≠ w.heap.size + 1 := by
            intro v' w5 hown hgr
            have hga := AllAt.grown_all HAT4.out hown hgr HRT.out HN3.out HRLT.out
            exact ⟨ownsRow_succ hown, Lib.hid hga.1, hga.2⟩
          have STEP := Lib.hid step
          clear step
          go_wp2_with (at_builtin; refine wpList_append_own _ rfl (.tmp 31) (.tmp 33) 26 rfl w.heap.size 31 i0 _ 4 40 Try.underlying26 hi hz0 hz1 hz2 rfl (by decide) (.slice A pre.length cv) pre.length (tokCells pre) rfl HAT4.out.row ⟨w2.heap.size + 1, 0, none⟩ 1 1 [.int .i64 K, .int .i64 p, .string T, .int .i64 M] rfl rfl (cells_new_at _ _ (by simp) _ _) (by simp [Value.oneCell']) (by simp only [maxLen]; omega) (by omega) (by simp; omega) ?_; intro v' w5 hown hgr _; obtain ⟨⟨g', cap', rfl⟩, HGA, k0, k1, fk0, fk1, kt, hne5⟩ := STEP.out _ _ hown hgr; have HGR := Lib.hid hgr; clear hgr hown)
          have hfin := HGA.out.setP (p + T.size)
          have e1 : ((p + T.size : Nat) : Int) = (p : Int) + T.size := by simp
          rw [e1] at hfin
          obtain ⟨hr3, hr4⟩ := Prod.mk.inj HR1.out
          have h2 := HR2.out
          rw [← hr3] at h2
          rw [← HLS.out] at h2 hr4
          have hbw := bl_only (bl_then hbr HB4.out) (only_grown (Only.refl (fun k => (Value.slice A pre.length cv).ownBlock = some k) _) HGR.out (fun k hk => .inl hk)) (fun k hk => own_block HAT4.out.row hk)
          have hm2 := intAt_of (n := p + T.size) (by rw [e1]; exact hfin.c1)
          refine ⟨⟨p + T.size, _, _, hTb, hfin, Lib.hid ⟨(restFrom (bl s) (skipN (bl s) (p + T.size))).1, ?_, ?_⟩, bl_set (bl_set hbw ⟨w.heap.size + 1, 0, none⟩ _ (by show w.heap.size ≤ w.heap.size + 1; omega)) ⟨w.heap.size + 1, 1, none⟩ _ (by show w.heap.size ≤ w.heap.size + 1; omega)⟩, ?_⟩
          · rw [← hr4]
          · rw [← h2]; simp
          · rw [hm2, HM.out]; omega
      · have hsk : skipN (bl s) (p + 1) = skipN (bl s) p := skip_same (by rw [HL.out]; exact hlt) (by rw [HX.out]; exact HB.out)
        have HSK := Lib.hid hsk
        clear hsk
        go_wp2_with fail
        refine (HC.out _).mono ?_
        rintro e w' ⟨rfl, rfl⟩
        go_wp2_with fail
        have hfin := HAT.out.setP (p + 1)
        have e1 : ((p + 1 : Nat) : Int) = (p : Int) + 1 := by simp
        rw [e1] at hfin
        have hm2 := intAt_of (n := p + 1) (by rw [e1]; exact hfin.c1)
        refine ⟨⟨p + 1, _, _, hlt, hfin, Lib.hid (by rw [HSK.out]; exact hr.out), bl_set hbr ⟨w.heap.size + 1, 1, none⟩ _ (by show w.heap.size ≤ w.heap.size + 1; omega)⟩, ?_⟩
        rw [hm2, HM.out]; omega
    · have il : ¬ (p : Int) < s.size := by omega
      have y0 := HAT.out.c0
      have z0 := HAT.out.r0
      have z1 := HAT.out.r1
      have g0 := HAT.out.fR 0
      have g1 := HAT.out.fR 1
      go_wp2_with fail
      have hps : p = s.size := by omega
      have hge := skipN_ge (bl s) p
      obtain ⟨r, hr1, hr2⟩ := hr.out
      have hle := skipN_le (l := bl s) (a := p) (by rw [HL.out]; exact hp)
      rw [HL.out] at hle
      have hsk : skipN (bl s) p = p := by omega
      rw [hsk, rest_end (by rw [HL.out]; exact hlt)] at hr1
      obtain ⟨hr3, hr4⟩ := Prod.mk.inj hr1
      rw [← hr3, List.append_nil] at hr2
      have hA4 := setCell_same (cs := [.slice A pre.length cv, .int .i64 0]) (i := 1) (setCell_same (cs := [.slice none 0 0, .int .i64 0]) (i := 0) HAT.out.hR (.slice A pre.length cv)) (.int .i64 p)
      subst hr2 hr4
      refine bodyPost_ret (v := .agg #[.slice A pre.length cv, .int .i64 p]) (all_end rfl hA4) rfl ⟨_, rfl, ?_, bl_set (bl_set hbr _ _ (Nat.le_refl _)) _ _ (Nat.le_refl _)⟩
      refine ownsRow_kept (S := fun b => b = w.heap.size) HAT.out.row (((Only.refl (fun b => b = w.heap.size) _).setCell _ _ (.inl rfl)).setCell _ _ (.inl rfl)) ?_
      rintro i rfl hk
      exact absurd (own_type HAT.out.row hk HAT.out.hR) (by decide)
end Go.Proofs.Ytkioabjdoccfeaa
