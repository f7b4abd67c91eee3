/- Chapter 2: Each: the iterator over a text's tokens. -/
import Derived.Test.YtkioabjdoccfeaaLexT
import Derived.RangeFuncNested
import Derived.RangeFuncBound
import Derived.RangeFuncCalls
import Derived.RangeFuncLeaves
import Derived.RangeFuncFrom
import Derived.RangeFuncBox
import Derived.Shelf.Abstract
import Derived.OwnWalkIn
import Derived.TacticsInMore
import Derived.LoopNIn
import Derived.LoopIn
import Derived.Sort.QuietIn
import Derived.Maps.AppendAt
namespace Go.Proofs.Ytkioabjdoccfeaa
open Go.RowKit Go.Shelf
set_option linter.unusedVariables false
set_option linter.unusedSimpArgs false
attribute [local go_sem] Oper.semAt_some

theorem callsIn_of {F : Fence} (HF : Hid (F = Fence.wide)) {n : Nat} {P : Program} {f : FuncId} {args : Array Value} {w : World} {R : Ending → World → Prop} (h : Calls P f args w R) : CallsIn F n P f args w R := by
  have e := HF.out
  subst e
  exact callsIn_wide.2 h
theorem grownBy_below (w w' : World) (h : Below w.heap.size w w') : w.grownBy w' none := ⟨h.os, h.tape, h.output, h.size, fun k hk _ => h.block k hk⟩
/-- A token within a text of so many bytes. -/
abbrev TokIn (n : Nat) := { t : Tok // t.at_ + t.text.length ≤ n }
/-- What a round keeps: texts, and blocks of one token. -/
def KeepsToks (A B : World) : Prop := ∀ (k : Nat) (cs : Array Value) (t : TypeId) (fr : Nat × Nat), A.heap[k]? = some (.cells cs t fr) → (t = 9 ∨ t = 31 ∧ cs.size = 4) → B.heap[k]? = A.heap[k]?
theorem KeepsToks.trans {A B C : World} (h : KeepsToks A B) (k : KeepsToks B C) : KeepsToks A C := fun i cs t fr h1 h2 => by
  have e := h i cs t fr h1 h2
  exact (k i cs t fr (e.trans h1) h2).trans e
theorem KeepsToks.of_below {A B : World} (h : Below A.heap.size A B) : KeepsToks A B := fun k cs t fr h1 _ => h.block k (block_lt h1)
theorem KeepsToks.set {A : World} (b i : Nat) (v : Value) {cs : Array Value} {t : TypeId} {fr : Nat × Nat} (hb : A.heap[b]? = some (.cells cs t fr)) (ht : ¬ (t = 9 ∨ t = 31 ∧ cs.size = 4)) : KeepsToks A (A.setCell ⟨b, i, none⟩ v) := fun k cs' t' fr' h1 h2 => by
  refine Below.heap_setCell A ⟨b, i, none⟩ v k ?_
  rintro rfl
  have := h1.symm.trans hb
  simp at this
  obtain ⟨rfl, rfl, rfl⟩ := this
  exact ht h2
theorem keepsToks_put (w : World) (W : World) (l : Nat) (o o' : Obj) (_ : w.heap.size ≤ l) (hl : W.heap[l]? = some o) (ho : o.isCells = false) (_ : o.isWalk = false) : KeepsToks W (W.putObj l o') := fun k cs t fr h1 h2 => by
  refine World.putObj_heap_other ?_
  rintro rfl
  have := hl.symm.trans h1
  simp at this
  subst this
  cases ho
theorem tok_cells (s : ByteArray) (a : Nat) : (tokOf (bl s) a).cells = [.int .i64 (nextH ((bl s).drop a)).kind, .int .i64 a, .string ((s.extract a s.size).extract 0 (nextH ((bl s).drop a)).len), .int .i64 (nextH ((bl s).drop a)).n] := by
  rw [← mkb_take, bl_drop]
  rfl

theorem wpIn_scope_wide {F : Fence} (HF : Hid (F = Fence.wide)) {n : Nat} {P : Program} {c : Code} {Q : Exit → Act → World → Prop} {a : Act} {w : World} (h : c.wpIn F n P (Exit.noGoto Q) a w) : (Code.scope c).wpIn F n P Q a w := by
  have e := HF.out
  subst e
  exact wpIn_wide.2 (wp_scope_straight (wpIn_wide.1 h))
set_option maxRecDepth 100000 in
set_option maxHeartbeats 4000000 in
theorem each1_in (F : Fence) (HF : Hid (F = Fence.wide)) (n : Nat) (hn : 1 ≤ n) (l Bn : Nat) (s : ByteArray) (hs : s.size ≤ 1000000) (N : Nat) (hN : (eachL (bl s)).1.length = N) (J Jx : List (TokIn s.size) → World → Prop) (B0 : Nat) (hAb : AbidesFrom B0 J)
    (hY : ∀ pre (x : TokIn s.size) W, J pre W → pre.length < N → YieldAt F (n - 1) Try.prog l #[.agg x.1.cells.toArray] W fun e W' =>
      (e = .returned (.bool true) ∧ J (pre ++ [x]) W' ∧ KeepsToks W W') ∨ (e = .returned (.bool false) ∧ Jx (pre ++ [x]) W'))
    (W : World) (hBn : W.heap[Bn]? = some (.cells #[.string s] 9 (0, 0))) (h0 : J [] W) :
    CallsIn F n Try.prog 24 #[.func (.yield l) #[] #[], .pointer (some ⟨Bn, 0, none⟩)] W fun e W' => (∃ v, e = .returned v) ∧
      ((∃ ys, ys.map (·.1) = (eachL (bl s)).1 ∧ J ys W') ∨ (∃ pre, (∃ rest, pre.map (·.1) ++ rest = (eachL (bl s)).1) ∧ Jx pre W')) := by
  have hb0 : W.cell? ⟨Bn, 0, none⟩ = some (.string s) := by simp [World.cell?, hBn]
  have hl := bl_length s
  have hsk := skipN_le (l := bl s) (a := 0) (by omega)
  rw [hl] at hsk
  have hro : F.round = none := by rw [HF.out]; rfl
  have h1 : F.fn 24 := by rw [HF.out]; trivial
  have h2 : F.fn 25 := by rw [HF.out]; trivial
  have h3 : F.fn 18 := by rw [HF.out]; trivial
  refine callsIn_of_wp Try.func24 rfl h1 ?_ hro
  simp only [Try.ntmps24, List.size_toArray, List.length_cons, List.length_nil, Nat.reduceAdd, Nat.reduceSub, Array.replicate_succ, Array.replicate_zero, List.push_toArray, List.append_toArray, List.nil_append, List.cons_append]
  have HL := Lib.hid hl
  have HSK := Lib.hid hsk
  have HNN := Lib.hid hN
  clear hl hsk hN
  refine wpIn_scope_wide HF ?_
  gi_wp2_with (gi_at_call 18; refine (callsIn_of HF (skip_any s 0 _ hs (by omega))).mono ?_; rintro e w' ⟨rfl, rfl⟩)
  refine wpIn_label ?_
  gi_wp2
  gi_loopw [3] (fun i wr => ∃ (a : Nat) (pre : List (TokIn s.size)), a ≤ s.size ∧ i = .int .i64 a ∧ Hid (pre.map (·.1) ++ (restFrom (bl s) a).1 = (eachL (bl s)).1) ∧ J pre wr ∧ wr.heap[Bn]? = some (.cells #[.string s] 9 (0, 0)))
    (fun i _ => s.size - (intOf i).toNat)
  case atStart => exact ⟨_, [], HSK.out, rfl, Lib.hid rfl, h0, hBn⟩
  case round =>
    obtain ⟨a, pre, ha, rfl, hpre, hJs, hbk⟩ := hrel
    have HJ := Lib.hid hJs
    have HB := Lib.hid hbk
    have ck0 : wr.cell? ⟨Bn, 0, none⟩ = some (.string s) := by simp [World.cell?, hbk]
    clear hJs hbk hb0
    by_cases hlt : a < s.size
    · have il : (a : Int) < s.size := by omega
      have ile : (a : Int) ≤ s.size := by omega
      have hnx := fun w => next_any (s.extract a s.size) w (by rw [size_drop]; omega) (by rw [size_drop]; omega)
      rw [bl_drop] at hnx
      have htk := tok_cells s a
      have hle := nextH_le ((bl s).drop a)
      rw [List.length_drop, HL.out] at hle
      obtain ⟨K, L, M, hh⟩ : ∃ K L M, nextH ((bl s).drop a) = ⟨K, L, M⟩ := ⟨_, _, _, rfl⟩
      rw [hh] at htk hnx hle
      obtain ⟨T, hT⟩ : ∃ T, (s.extract a s.size).extract 0 L = T := ⟨_, rfl⟩
      have hTs : T.size = L := by rw [← hT]; exact size_extract0 _ _ (by rw [size_drop]; exact hle)
      have hnx2 : ∀ w, Calls Try.prog 25 #[.string (s.extract a s.size)] w fun e w' => e = .returned (.agg #[.int .i64 K, .int .i64 0, .string T, .int .i64 M]) ∧ Below w.heap.size w w' := by
        intro w
        have := hnx w
        unfold hdCells at this
        rw [hT] at this
        exact this
      have htk2 : (tokOf (bl s) a).cells = [.int .i64 K, .int .i64 a, .string T, .int .i64 M] := by rw [htk, hT]
      have hLle : L ≤ s.size - a := hle
      have hTle : a + T.size ≤ s.size := by rw [hTs]; omega
      have HX := Lib.hid hnx2
      have HH := Lib.hid hh
      have HTK := Lib.hid htk2
      have HTS := Lib.hid hTs
      clear hnx hnx2 htk htk2 hT hTs hle hh
      by_cases hK : K = 0
      · subst hK
        gi_wp2_with (gi_at_call 25; refine (callsIn_of HF (HX.out _)).mono ?_; rintro e w1 ⟨rfl, hb1⟩)
        refine ⟨fun _ h => (by cases h), ?_⟩
        gi_wp2
        try simp only [Exit.noGoto]
        go_end0
        have hend := rest_none (l := bl s) (a := a) (by rw [HH.out])
        have hp2 := hpre.out
        rw [hend, List.append_nil] at hp2
        exact ⟨⟨_, rfl⟩, .inl ⟨pre, hp2, hAb _ _ _ none HJ.out (grownBy_below _ _ (bl_alloc hb1 _)) (fun _ e => by cases e)⟩⟩
      · have d1 : ((K : Int) == 0) = false := by simpa using hK
        have HKN := Lib.hid hK
        clear hK
        gi_wp2_with (gi_at_call 25; refine (callsIn_of HF (HX.out _)).mono ?_; rintro e w1 ⟨rfl, hb1⟩)
        have hbn : Below wr.heap.size wr (w1.alloc (.cells #[.int .i64 K, .int .i64 a, .string T, .int .i64 M] 31)) := bl_alloc hb1 _
        have hJ2 : J pre (w1.alloc (.cells #[.int .i64 K, .int .i64 a, .string T, .int .i64 M] 31)) := hAb _ _ _ none HJ.out (grownBy_below _ _ hbn) (fun _ e => by cases e)
        have hrest := rest_some (l := bl s) (a := a) (by rw [HL.out]; exact hlt) (by rw [HH.out]; exact HKN.out)
        rw [HH.out] at hrest
        dsimp only at hrest
        have htl : (tokOf (bl s) a).text.length = L := by rw [tokOf_len, HH.out]
        obtain ⟨xt, hxt⟩ : ∃ xt : TokIn s.size, xt.1 = tokOf (bl s) a := ⟨⟨tokOf (bl s) a, by rw [htl]; show a + L ≤ _; omega⟩, rfl⟩
        have hp2 : (pre ++ [xt]).map (·.1) ++ (restFrom (bl s) (skipN (bl s) (a + L))).1 = (eachL (bl s)).1 := by
          have := hpre.out
          rw [hrest] at this
          rw [← this, List.map_append, List.map_cons, List.map_nil, hxt]
          simp
        have hplen : pre.length < N := by
          have := congrArg List.length hp2
          rw [HNN.out] at this
          simp at this
          omega
        have hY2 := hY pre xt _ hJ2 hplen
        rw [hxt, HTK.out] at hY2
        obtain ⟨fn, tmps, assign, body, hy, hR⟩ := hY2
        have HP2 := Lib.hid hp2
        have hn0 := alloc_new w1 (.cells #[.int .i64 K, .int .i64 a, .string T, .int .i64 M] 31)
        have hbk2 := (hbn.block Bn (block_lt HB.out)).trans HB.out
        have HN0 := Lib.hid hn0
        have HBK2 := Lib.hid hbk2
        clear hJ2 hrest hp2 hplen htl hn0 hbk2 hbn hxt
        rw [hy]
        gi_wp2
        refine hR.mono ?_
        rintro e W3 (⟨rfl, hJ3, hk3⟩ | ⟨rfl, hJx3⟩)
        · have hn3 := (hk3 _ _ _ _ HN0.out (.inr ⟨rfl, rfl⟩)).trans HN0.out
          have hb3 := (hk3 _ _ _ _ HBK2.out (.inl rfl)).trans HBK2.out
          have x0 : W3.cell? ⟨Bn, 0, none⟩ = some (.string s) := cell_of_blk hb3 0
          have x2 : W3.cell? ⟨w1.heap.size, 2, none⟩ = some (.string T) := cell_of_blk hn3 2
          gi_wp2_with (gi_at_call 18; refine (callsIn_of HF (skip_int s _ _ hs (by omega) (by omega))).mono ?_; rintro e w' ⟨rfl, rfl⟩)
          have hnxt := skipN_le (l := bl s) (a := a + T.size) (by rw [HL.out]; exact hTle)
          have hge := skipN_ge (bl s) (a + T.size)
          rw [HL.out] at hnxt
          have e1 : ((a : Int) + (T.size : Int)).toNat = a + T.size := by omega
          have hp3 := HP2.out
          rw [← HTS.out] at hp3
          have hpos : 1 ≤ T.size := by
            have := nextH_pos (l := (bl s).drop a) (by rw [HH.out]; exact HKN.out)
            rw [HH.out] at this
            rw [HTS.out]
            exact this
          rw [e1]
          go_roundw
          case rel => exact ⟨_, pre ++ [xt], hnxt, rfl, Lib.hid hp3, hJ3, hb3⟩
          case measure => simp [intOf]; omega
        · gi_wp2
          try simp only [Exit.noGoto]
          go_end0
          exact ⟨⟨_, rfl⟩, .inr ⟨_, ⟨_, HP2.out⟩, hJx3⟩⟩
    · have il : ¬ (a : Int) < s.size := by omega
      gi_wp2
      try simp only [Exit.noGoto]
      go_end0
      have hend := rest_end (l := bl s) (a := a) (by rw [HL.out]; exact hlt)
      have hp2 := hpre.out
      rw [hend, List.append_nil] at hp2
      exact ⟨⟨_, rfl⟩, .inl ⟨pre, hp2, HJ.out⟩⟩
end Go.Proofs.Ytkioabjdoccfeaa
