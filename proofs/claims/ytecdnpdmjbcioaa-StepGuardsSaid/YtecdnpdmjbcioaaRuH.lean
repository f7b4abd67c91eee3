/- Two rows of codes, one behind the other; table.may. -/
import Derived.Test.YtecdnpdmjbcioaaRuG
namespace Go.Proofs.Ytecdnpdmjbcioaa
open Go.RowKit
set_option linter.unusedVariables false
set_option linter.unusedSimpArgs false

theorem codeCells_append (a b : List CodeV) : codeCells (a ++ b) = codeCells a ++ codeCells b := by simp [codeCells]
/-- Two rows of codes, whose slices lie at a block. -/
structure TwoCodes (w : World) (E : Nat) (r : RuleV) : Prop where
  blk : w.heap[E]? = some (.cells #[.slice r.la r.ln r.lc, .slice r.ra r.rn r.rc] 57 (0, 0))
  ok : RuleOk w r
theorem TwoCodes.below {w w' : World} {E : Nat} {r : RuleV} (h : TwoCodes w E r) (hb : Below w.heap.size w w') : TwoCodes w' E r := ⟨(hb.block _ (block_lt h.blk)).trans h.blk, h.ok.below hb⟩
def RuleV.side (r : RuleV) (i : Nat) : Option Addr × Nat × Nat × List CodeV := if i = 0 then (r.la, r.ln, r.lc, r.l) else (r.ra, r.rn, r.rc, r.r)
def RuleV.upTo (r : RuleV) (i : Nat) : List CodeV := if i = 0 then [] else if i = 1 then r.l else r.l ++ r.r
theorem TwoCodes.at_ {w : World} {E : Nat} {r : RuleV} (h : TwoCodes w E r) {i : Nat} (hi : i < 2) : ∃ a n c cs, w.cell? ⟨E, i, none⟩ = some (.slice a n c) ∧ cs.length = n ∧ n ≤ 1000 ∧ n ≤ c ∧ Reads w 5 (.slice a n c) n (codeCells cs) ∧ r.upTo (i + 1) = r.upTo i ++ cs := by
  have : i = 0 ∨ i = 1 := by omega
  rcases this with rfl | rfl
  · exact ⟨r.la, r.ln, r.lc, r.l, cell_of_blk (cs := [.slice r.la r.ln r.lc, .slice r.ra r.rn r.rc]) h.blk 0, h.ok.left.len, h.ok.ln, h.ok.lc, h.ok.left.reads h.ok.lnil, rfl⟩
  · exact ⟨r.ra, r.rn, r.rc, r.r, cell_of_blk (cs := [.slice r.la r.ln r.lc, .slice r.ra r.rn r.rc]) h.blk 1, h.ok.right.len, h.ok.rn, h.ok.rc, h.ok.right.reads h.ok.rnil, rfl⟩
def BothOut (w : World) (l : List CodeV) (e : Ending) (w' : World) : Prop := ∃ A m c, e = .returned (.slice A m c) ∧ CodesAt w' A m l ∧ Below w.heap.size w w'
set_option maxHeartbeats 4000000 in
theorem concat_c {w : World} {E : Nat} {r : RuleV} (h : TwoCodes w E r) :
    Calls Try.prog 72 #[.slice (some ⟨E, 0, none⟩) 2 2] w (BothOut w (r.l ++ r.r)) := by
  have H := Lib.hid h
  clear h
  obtain ⟨i0, hi, hz0, hz1, hz2⟩ := info_parts infoCode
  go_enter Try.func72, Try.ntmps72
  go_wp2_with fail
  go_loopw [3, 11] (fun s i wr => ∃ I L : Nat, I ≤ 2 ∧ i = .int .i64 I ∧ s = .int .i64 L ∧ (r.upTo I).length = L ∧ L ≤ I * 1000 ∧ wr = w) (fun _ i _ => 2 - (intOf i).toNat)
  case atStart => exact ⟨0, 0, Nat.zero_le _, rfl, rfl, rfl, Nat.le_refl _, rfl⟩
  case round =>
    obtain ⟨I, L, hI, rfl, rfl, hL, hL4, rfl⟩ := hrel
    by_cases hlt : I < 2
    · have iI : (I : Int) < 2 := by omega
      obtain ⟨ra, rn, rc, cs, hc, hz, hr4, hrc, _, hs⟩ := H.out.at_ hlt
      have HS := Lib.hid hs
      have HL := Lib.hid hL
      have HZ := Lib.hid hz
      clear hs hL hz
      have n0 : ¬ (L : Int) + rn < 0 := by omega
      go_wp2_with fail
      go_roundw
      case rel => exact ⟨I + 1, L + rn, hlt, by simp, by simp, by rw [HS.out, List.length_append, HL.out, HZ.out], by omega, trivial⟩
      case measure => simp [intOf]; omega
    · obtain rfl : I = 2 := by omega
      have iI : ¬ ((2 : Nat) : Int) < 2 := by omega
      obtain ⟨wo, hwo⟩ : ∃ wo, wo = wr := ⟨_, rfl⟩
      subst hwo
      have HL := Lib.hid hL
      have HG := Lib.hid (grow_c L (by omega) wo)
      clear hL
      go_wp2_with fail
      refine HG.out.mono ?_
      rintro e w2 ⟨v, rfl, hrow, hb⟩
      have hst : ∃ J M : Nat, J ≤ 2 ∧ Value.int .i64 0 = .int .i64 (J : Int) ∧ (r.upTo J).length = M ∧ M ≤ J * 1000 ∧ w2.ownsRow wo.heap.size 56 5 v M (codeCells (r.upTo J)) ∧ Below wo.heap.size wo w2 := ⟨0, 0, Nat.zero_le _, rfl, rfl, Nat.le_refl _, hrow, hb⟩
      have HST := Lib.hid hst
      clear hrow hb hst HG
      go_wp2_with fail
      go_loopw [6, 27] (fun s i W => ∃ J M : Nat, J ≤ 2 ∧ i = .int .i64 J ∧ (r.upTo J).length = M ∧ M ≤ J * 1000 ∧ W.ownsRow wo.heap.size 56 5 s M (codeCells (r.upTo J)) ∧ Below wo.heap.size wo W) (fun _ i _ => 2 - (intOf i).toNat)
      case atStart => exact HST.out
      case round =>
        obtain ⟨J, M, hJ, rfl, hM, hM4, hrow, hb⟩ := hrel
        by_cases hlt : J < 2
        · have iJ : (J : Int) < 2 := by omega
          obtain ⟨ra, rn, rc, cs, hc, hz, hr4, hrc, hrd, hs⟩ := (H.out.below hb).at_ hlt
          have hz9 := hb.size
          have HS := Lib.hid hs
          have HM := Lib.hid hM
          have HZ := Lib.hid hz
          have HROW := Lib.hid hrow
          have HB := Lib.hid hb
          have HRD := Lib.hid hrd
          clear hs hM hz hrow hb hrd
          go_wp2_with (at_builtin; refine wpList_append_reads _ rfl (.tmp 31) (.tmp 32) 57 rfl wo.heap.size 56 i0 _ 5 48 Try.underlying57 hi hz0 hz1 hz2 rfl (by decide) _ M (codeCells (r.upTo J)) rfl HROW.out _ rn _ rfl HRD.out (by simp only [maxLen]; omega) (by omega) hz9 ?_; intro v8 w8 hown8 hgr8; have ho8 := only_grown (Only.refl _ _) hgr8 (fun k hk => .inl hk); have hb8 := bl_only HB.out ho8 (fun k hk => own_block HROW.out hk))
          go_roundw
          case rel => exact ⟨J + 1, M + rn, hlt, by simp, by rw [HS.out, List.length_append, HM.out, HZ.out], by omega, by rw [HS.out, codeCells_append]; exact hown8, hb8⟩
          case measure => simp [intOf]; omega
        · obtain rfl : J = 2 := by omega
          have iJ : ¬ ((2 : Nat) : Int) < 2 := by omega
          obtain ⟨A', c, rfl⟩ := own_form hrow
          have hd : CodesAt wr A' M (r.l ++ r.r) := CodesAt.of_own hrow
          have HD := Lib.hid hd
          have HB := Lib.hid hb
          clear hd hrow hb hM
          go_wp2_with fail
          go_ret
          exact ⟨A', M, c, rfl, HD.out, HB.out⟩

theorem may_take {most more : Int} {rs : List RuleV} {I : Nat} {r : RuleV} (h : rs[I]? = some r) (ht : mayB most more (rs.take I) = true) (hr : r.mayB most more = true) : mayB most more (rs.take (I + 1)) = true := by
  unfold mayB at *
  rw [List.take_add_one, h, List.all_append, ht]
  simp [hr]
theorem may_false {most more : Int} {rs : List RuleV} {I : Nat} {r : RuleV} (h : rs[I]? = some r) (hr : r.mayB most more = false) : mayB most more rs = false := by
  unfold mayB
  rw [List.all_eq_false]
  exact ⟨r, List.mem_of_getElem? h, by simp [hr]⟩
set_option maxHeartbeats 4000000 in
set_option maxRecDepth 100000 in
theorem may_any {w : World} {A : Option Addr} {n c : Nat} {rs : List RuleV} (h : RulesAt w A n rs) (most more : Int) :
    Calls Try.prog 56 #[.slice A n c, .int .i64 most, .int .i64 more] w fun e w' => e = .returned (.bool (mayB most more rs)) ∧ Below w.heap.size w w' := by
  have hf := h.few
  have H := Lib.hid h
  clear h
  have hb := bl_alloc (bl_alloc (Below.refl _ w) (.cells #[.int .i64 most] 3)) (.cells #[.int .i64 more] 3)
  have hP := alloc_old (alloc_new w (.cells #[.int .i64 most] 3)) (.cells #[.int .i64 more] 3)
  have hQ := alloc_new' (w.alloc (.cells #[.int .i64 most] 3)) (.cells #[.int .i64 more] 3) (w.heap.size + 1) (by simp)
  have HP := Lib.hid hP
  have HQ := Lib.hid hQ
  have HB0 := Lib.hid hb
  clear hP hQ hb
  go_enter Try.func56, Try.ntmps56
  go_wp2_with fail
  generalize hw1 : (w.alloc (.cells #[.int .i64 most] 3)).alloc (.cells #[.int .i64 more] 3) = w1 at *
  clear hw1
  have hst : ∃ K : Nat, K ≤ n ∧ Value.int .i64 0 = .int .i64 (K : Int) ∧ Below w1.heap.size w1 w1 ∧ Hid (mayB most more (rs.take K) = true) := ⟨0, Nat.zero_le _, rfl, Below.refl _ _, Lib.hid rfl⟩
  have HST := Lib.hid hst
  clear hst
  go_loopw [12] (fun i wr => ∃ K : Nat, K ≤ n ∧ i = .int .i64 K ∧ Below w1.heap.size w1 wr ∧ Hid (mayB most more (rs.take K) = true)) (fun i _ => n - (intOf i).toNat)
  case atStart => exact HST.out
  case round =>
    obtain ⟨K, hK, rfl, hb, HT⟩ := hrel
    have HB := Lib.hid hb
    by_cases hlt : K < n
    · have iK : (K : Int) < n := by omega
      obtain ⟨b, off, r, rfl, hr, hok, h0, h1, h2⟩ := (H.out.below (bl_then HB0.out hb)).at_ hlt
      have HR := Lib.hid hr
      have HK := Lib.hid hok
      clear hb hr hok
      by_cases hop : r.op < 1 ∨ 6 < r.op
      · have hm : r.mayB most more = false := by
          unfold RuleV.mayB
          rcases hop with h | h
          · rw [decide_eq_true h]; rfl
          · rw [decide_eq_true h, Bool.or_true]; rfl
        have HM := Lib.hid (may_false HR.out hm)
        have HBE := Lib.hid (bl_then HB0.out (bl_alloc HB.out (.cells #[.int .i64 r.op, .slice r.la r.ln r.lc, .slice r.ra r.rn r.rc] 59)))
        clear hm
        have hop2 : decide (r.op < 1) = true ∨ (decide (r.op < 1) = false ∧ decide (6 < r.op) = true) := by
          rcases hop with h | h
          · exact .inl (decide_eq_true h)
          · exact .inr ⟨decide_eq_false (by omega), decide_eq_true h⟩
        clear hop
        rcases hop2 with d1 | ⟨d1, d2⟩
        · go_wp2_with fail
          go_ret
          exact ⟨by rw [HM.out]; rfl, HBE.out⟩
        · go_wp2_with fail
          go_ret
          exact ⟨by rw [HM.out]; rfl, HBE.out⟩
      · have d1 : decide (r.op < 1) = false := decide_eq_false (by omega)
        have d2 : decide (6 < r.op) = false := decide_eq_false (by omega)
        have hm : r.mayB most more = !((r.l ++ r.r).any (CodeV.bad most more)) := by
          unfold RuleV.mayB
          rw [d1, d2]; rfl
        have HM := Lib.hid hm
        clear hm hop
        have hb1 : Below wr.heap.size wr ((wr.alloc (.cells #[.int .i64 r.op, .slice r.la r.ln r.lc, .slice r.ra r.rn r.rc] 59)).alloc (.cells #[.slice r.la r.ln r.lc, .slice r.ra r.rn r.rc] 57)) := bl_alloc (bl_alloc (Below.refl _ _) _) _
        have htc : TwoCodes ((wr.alloc (.cells #[.int .i64 r.op, .slice r.la r.ln r.lc, .slice r.ra r.rn r.rc] 59)).alloc (.cells #[.slice r.la r.ln r.lc, .slice r.ra r.rn r.rc] 57)) (wr.heap.size + 1) r := ⟨alloc_new' _ _ _ (by simp), HK.out.below hb1⟩
        have HCC := Lib.hid (concat_c htc)
        have HB1 := Lib.hid (bl_then HB.out hb1)
        have hlen : (r.l ++ r.r).length ≤ 100000 := by
          rw [List.length_append, HK.out.left.len, HK.out.right.len]
          have := HK.out.ln
          have := HK.out.rn
          omega
        have HLEN := Lib.hid hlen
        clear hb1 htc hlen
        go_wp2_with fail
        refine HCC.out.mono ?_
        rintro e w2 ⟨A2, m2, c2, rfl, hcs, hb2⟩
        have hb12 := bl_then HB1.out hb2
        have HC := Lib.hid (contains_c (c := c2) hcs (by rw [← hcs.len]; exact HLEN.out) ((hb12.block _ (block_lt HP.out)).trans HP.out) ((hb12.block _ (block_lt HQ.out)).trans HQ.out))
        have HB2 := Lib.hid hb12
        clear hcs hb2 hb12 h0 h1 h2 HCC
        obtain ⟨bd, hbd⟩ : ∃ bd, (r.l ++ r.r).any (CodeV.bad most more) = bd := ⟨_, rfl⟩
        rw [hbd] at HC HM
        clear hbd
        go_wp2_with fail
        refine HC.out.mono ?_
        rintro e w3 ⟨rfl, hb3⟩
        have HB3 := Lib.hid (bl_then HB2.out hb3)
        clear hb3 HC
        cases bd
        · go_wp2_with fail
          go_roundw
          case rel => exact ⟨K + 1, hlt, by simp, HB3.out, Lib.hid (may_take HR.out HT.out HM.out)⟩
          case measure => simp [intOf]; omega
        · go_wp2_with fail
          go_ret
          exact ⟨by rw [may_false HR.out HM.out]; rfl, bl_then HB0.out HB3.out⟩
    · obtain rfl : K = n := by omega
      have iK : ¬ (K : Int) < K := by omega
      have hall := HT.out
      rw [List.take_of_length_le (by rw [H.out.len]; exact Nat.le_refl _)] at hall
      have HA := Lib.hid hall
      clear hall hb
      go_wp2_with fail
      go_ret
      exact ⟨by rw [HA.out]; rfl, bl_then HB0.out HB.out⟩
end Go.Proofs.Ytecdnpdmjbcioaa
