/- Chapter 19: an act is done with both: a stamp is taken. (Printed by lggen.py.) -/
import Derived.Test.YtibbnikfecilhaaLgDC
namespace Go.Proofs.Ytibbnikfecilhaa
open Go.RowKit
set_option linter.unusedVariables false
set_option linter.unusedSimpArgs false

/-- What lay there, and the configs that lie there. -/
structure Bel (w0 wB w : World) : Prop where
  bel : Below w0.heap.size w0 w
  box : ∀ (k : Nat) (cs : Array Value) (fr : Nat × Nat), wB.heap[k]? = some (.cells cs 27 fr) → w.heap[k]? = some (.cells cs 27 fr)
  box3 : ∀ (k : Nat) (cs : Array Value) (fr : Nat × Nat), wB.heap[k]? = some (.cells cs 64 fr) → w.heap[k]? = some (.cells cs 64 fr)
theorem Bel.to {w0 wB w w' : World} (h : Bel w0 wB w) (hb : Below w.heap.size w w') : Bel w0 wB w' := ⟨h.bel.trans (hb.mono h.bel.size), fun k cs fr hk => (hb.block _ (block_lt (h.box k cs fr hk))).trans (h.box k cs fr hk), fun k cs fr hk => (hb.block _ (block_lt (h.box3 k cs fr hk))).trans (h.box3 k cs fr hk)⟩
/-- A log, and the document's, side by side. -/
structure Both (w0 wB w : World) (L D : Nat) (b : LogB) (s : LogS) : Prop where
  log : ∃ lo, w0.heap.size ≤ lo ∧ LogAt w lo L b s
  ref : ∃ lo d, w0.heap.size ≤ lo ∧ RefAt w lo D b.C d s
  bel : Bel w0 wB w
theorem Both.below {w0 wB w w' : World} {L D : Nat} {b : LogB} {s : LogS} (h : Both w0 wB w L D b s) (hb : Below w.heap.size w w') : Both w0 wB w' L D b s := by
  obtain ⟨lo, h1, h2⟩ := h.log
  obtain ⟨lo', d, h3, h4⟩ := h.ref
  exact ⟨⟨lo, h1, h2.below hb⟩, ⟨lo', d, h3, h4.below hb⟩, h.bel.to hb⟩
/-- What an act makes of a log. -/
def stepTo (s : LogS) (k at_ n : Int) (x : OutV) : LogS :=
  if k % 10 ≤ 1 then (if s.takes (tailOf at_ n s.tail) (n % 9 == 0) = true then s.taken (n % 9 == 0) else s)
  else if k % 10 ≤ 3 then (if s.fills (s.low + at_ % 7 - 1) = true then s.filled (s.low + at_ % 7 - 1) ⟨1 + n % 5, n⟩ else s)
  else if k % 10 ≤ 5 then (if s.posts (at_ % 5 - 1) = true then s.posted (at_ % 5 - 1) (x, n) else s)
  else if k % 10 ≤ 6 then (if n % 5 = 0 ∧ s.leaves (at_ % 5 - 1) = true then s.left (at_ % 5 - 1) else s)
  else if k % 10 ≤ 8 then (if s.collect.isSome = true then s.replied (s.cmdV s.low).kind n else s)
  else s.asked (at_ % 25)
theorem own_L {L : Nat} {b : LogB} {m : Nat} : ∀ k, k = L → Own L b m k := fun k h => .inl h
theorem own_B {L : Nat} {b : LogB} {m : Nat} : ∀ k, k = b.B → Own L b m k := fun k h => .inr (.inr (.inl h))
theorem own_C {L : Nat} {b : LogB} {m : Nat} : ∀ k, k = b.C → Own L b m k := fun k h => .inr (.inr (.inr (.inl h)))
theorem own_W {L : Nat} {b : LogB} {m : Nat} : ∀ k, (k = b.C ∨ ∃ j, j < m ∧ k = b.bw j) → Own L b m k := fun k h => by
  rcases h with h | ⟨j, hj, h⟩
  · exact own_C k h
  · exact .inr (.inr (.inr (.inr (.inr ⟨j, hj, .inr h⟩))))
/-- What is of no kind that a log is of stays. -/
theorem typ_own {w w' : World} {lo L P : Nat} {b : LogB} {s : LogS} {cs : Array Value} {t : TypeId} {fr : Nat × Nat} (h : LogAt w lo L b s) (hP : w.heap[P]? = some (.cells cs t fr)) (ht : t ≠ 94 ∧ t ≠ 117 ∧ t ≠ 124 ∧ t ≠ 3 ∧ t ≠ 120 ∧ t ≠ 128) (ho : Only (Own L b s.cfg.sh) w w') : w'.heap[P]? = some (.cells cs t fr) := by
  refine ho.block hP ?_
  have no : ∀ {cs' : Array Value} {t' : TypeId} {fr' : Nat × Nat}, w.heap[P]? = some (.cells cs' t' fr') → t ≠ t' → False := fun {cs' t' fr'} hk' ht' => by
    have e := hP.symm.trans hk'
    injection e with e
    injection e with _ e _
    exact ht' e
  obtain ⟨t1, t2, t3, t4, t5, t6⟩ := ht
  rintro (rfl | rfl | rfl | rfl | rfl | ⟨i, hi, rfl | rfl⟩)
  · exact no h.hL t1
  · exact no h.ring.hR t2
  · exact no h.ring.hB t3
  · exact no h.curs t4
  · obtain ⟨an, D', _, ⟨es, clock, h1, _⟩, _⟩ := h.ans.ex
    cases hP.symm.trans h1
  · exact no (h.orng i hi).hR t5
  · exact no (h.orng i hi).hB t6
theorem act_own {w w' : World} {lo L P : Nat} {b : LogB} {s : LogS} {cs : Array Value} (h : LogAt w lo L b s) (hP : w.heap[P]? = some (.cells cs 75 (0, 0))) (ho : Only (Own L b s.cfg.sh) w w') : w'.heap[P]? = some (.cells cs 75 (0, 0)) := typ_own h hP (by decide) ho
/-- Nor does the document's log change it. -/
theorem typ_dock {w w' : World} {lo P : Nat} {cs : Array Value} {t : TypeId} {fr : Nat × Nat} (hP : w.heap[P]? = some (.cells cs t fr)) (ht : t ≠ 105 ∧ t ≠ 131 ∧ t ≠ 133 ∧ t ≠ 47) (ho : Only (DocK lo w) w w') : w'.heap[P]? = some (.cells cs t fr) := by
  refine ho.block hP ?_
  rintro ⟨_, cs', t', fr', g1, g2⟩
  have e := hP.symm.trans g1
  injection e with e
  injection e with _ e _
  subst e
  obtain ⟨t1, t2, t3, t4⟩ := ht
  rcases g2 with g | g | g | g
  · exact t1 g
  · exact t2 g
  · exact t3 g
  · exact t4 g
/-- What is done with both, one behind the other. -/
theorem Both.step {w0 wB w w1 w2 : World} {L D : Nat} {b : LogB} {s s' : LogS} {lo lo' : Nat} {d' : DocB} (hbel : Bel w0 wB w) (hlo : w0.heap.size ≤ lo) (hlo' : w0.heap.size ≤ lo') (h : LogAt w lo L b s) (h1 : LogAt w1 lo L b s') (o1 : Only (Own L b s.cfg.sh) w w1) (hr : RefAt w2 lo' D b.C d' s') (o2 : Only (DocK lo' w1) w1 w2) : Both w0 wB w2 L D b s' := by
  have hb1 : Below w0.heap.size w0 w1 := bl_only hbel.bel o1 (fun i hi => Nat.le_trans hlo (own_lo h i hi))
  exact ⟨⟨lo, hlo, h1.doc o2⟩, ⟨lo', d', hlo', hr⟩, bl_only hb1 o2 (fun i hi => Nat.le_trans hlo' hi.1), fun k cs fr hk => typ_dock (typ_own h (hbel.box k cs fr hk) (by decide) o1) (by decide) o2, fun k cs fr hk => typ_dock (typ_own h (hbel.box3 k cs fr hk) (by decide) o1) (by decide) o2⟩
set_option maxHeartbeats 8000000 in
set_option maxRecDepth 20000 in
theorem does_take {w0 wB w : World} {L D : Nat} {b : LogB} {s : LogS} (h : Both w0 wB w L D b s) (k at_ n : Int) (hq : k % 10 = 0 ∨ k % 10 = 1) (hsm : s.tail + 1 ≤ 1000000) (s' : LogS) (hs' : stepTo s k at_ n OutV.zero = s') :
    Calls Try.prog 27 #[.pointer (some ⟨L, 0, none⟩), .pointer (some ⟨D, 0, none⟩), .agg #[.int .i64 k, .int .i64 at_, .int .i64 n]] w fun e w' => e = .returned (.bool true) ∧ Both w0 wB w' L D b s' := by
  unfold stepTo at hs'
  rw [if_pos (by omega)] at hs'
  obtain ⟨t, ht⟩ : ∃ t, tailOf at_ n s.tail = t := ⟨_, rfl⟩
  obtain ⟨r, hr⟩ : ∃ r, s.takes t (n % 9 == 0) = r := ⟨_, rfl⟩
  rw [ht, hr] at hs'
  have hb := bl_alloc (Below.refl _ w) (.cells #[.int .i64 k, .int .i64 at_, .int .i64 n] 75)
  have hz := alloc_new w (.cells #[.int .i64 k, .int .i64 at_, .int .i64 n] 75)
  have h1 := h.below hb
  have htb : -9223372036854775808 ≤ t ∧ t ≤ 9223372036854775807 := by
    rw [← ht]
    unfold tailOf
    split <;> omega
  obtain ⟨x0, x1, x2⟩ := three_of hz
  have HZ := Lib.hid hz
  have H1 := Lib.hid h1
  have HT := Lib.hid ht
  have HR := Lib.hid hr
  have HS := Lib.hid hs'
  have HTB := Lib.hid htb
  have HQ := Lib.hid hq
  clear h hb hz h1 ht hr hs' htb hq
  go_enter Try.func27, Try.ntmps27
  go_wp2_with fail
  obtain ⟨P, hP⟩ : ∃ P, P = w.heap.size := ⟨_, rfl⟩
  rw [← hP] at HZ x0 x1 x2
  rw [← hP]
  clear hP
  generalize w.alloc (.cells #[.int .i64 k, .int .i64 at_, .int .i64 n] 75) = w1 at *
  refine (rest_any _ 5 _ (by decide) (by decide)).mono ?_
  rintro e w' ⟨rfl, rfl⟩
  go_wp2_with fail
  refine (rest_any _ 10 _ (by decide) (by decide)).mono ?_
  rintro e w' ⟨rfl, rfl⟩
  obtain ⟨lo, hlo, hl1⟩ := H1.out.log
  obtain ⟨lo', d, hlo', hr1⟩ := H1.out.ref
  have c7 : w1.cell? ⟨D, 7, none⟩ = some (.slice d.A s.tail d.cap) := hr1.cell 7
  have hst : ∀ W, Below w1.heap.size w1 W → W.cell? ⟨P, 0, none⟩ = some (.int .i64 k) ∧ W.cell? ⟨P, 1, none⟩ = some (.int .i64 at_) ∧ W.cell? ⟨P, 2, none⟩ = some (.int .i64 n) ∧ W.cell? ⟨D, 7, none⟩ = some (.slice d.A s.tail d.cap) := fun W hW => by
    obtain ⟨y0, y1, y2⟩ := three_of ((hW.block _ (block_lt HZ.out)).trans HZ.out)
    exact ⟨y0, y1, y2, (hr1.below hW).cell 7⟩
  have HST := Lib.hid hst
  have HL1 := Lib.hid hl1
  have HR1 := Lib.hid hr1
  have HBL := Lib.hid H1.out.bel
  have HLO := Lib.hid hlo
  have HLO' := Lib.hid hlo'
  clear hst hl1 hr1 hlo hlo' H1 x0 x1 x2 c7
  rcases HQ.out with hq | hq
  all_goals
    simp only [hq]
    clear hq
    go_wp2_with fail
    go_region_held3 (fun w' => w'.cell? ⟨P, 0, none⟩ = some (.int .i64 k) ∧ w'.cell? ⟨P, 1, none⟩ = some (.int .i64 at_) ∧ w'.cell? ⟨P, 2, none⟩ = some (.int .i64 n) ∧ w'.cell? ⟨D, 7, none⟩ = some (.slice d.A s.tail d.cap)) (first | exact hS2 | exact HST.out _ (bl_drew (Below.refl _ _)))
      (first | (go_at_call 28; refine (tail_any k at_ n s.tail (by omega) _ t HT.out).mono ?_; rintro e w2 ⟨rfl, hb2⟩; have hS2 := HST.out w2 (bl_then (bl_drew (Below.refl _ _)) hb2)))
    all_goals
      go_wp2_with fail
      have hbd := bl_then (bl_drew (Below.refl _ w1)) hb2
      have hbd2 := bl_drew hbd
      have HL2 := Lib.hid (HL1.out.below hbd2)
      have HR2 := Lib.hid (HR1.out.below hbd2)
      have HB2 := Lib.hid (HBL.out.to hbd2)
      have hz2 : w2.drew.heap[P]? = some (.cells #[.int .i64 k, .int .i64 at_, .int .i64 n] 75 (0, 0)) := (hbd2.block _ (block_lt HZ.out)).trans HZ.out
      have HZ2 := Lib.hid hz2
      clear hbd hbd2 hz2 hb2 hS2
      go_region_held3 (fun w' => w'.cell? ⟨P, 0, none⟩ = some (.int .i64 k) ∧ w'.cell? ⟨P, 1, none⟩ = some (.int .i64 at_) ∧ w'.cell? ⟨P, 2, none⟩ = some (.int .i64 n)) (first | exact three_of hz4 | exact three_of hz3 | exact three_of HZ2.out)
        (first
          | (go_at_call 10; refine (rest_any _ _ _ (by decide) (by decide)).mono ?_; rintro e w' ⟨rfl, rfl⟩)
          | (go_at_call 12; refine (logTake_to HL2.out t _ r HR.out s' HS.out HTB.out).mono ?_; rintro e w3 ⟨rfl, h3, o3⟩; have o3' := o3.mono (own_L (b := b) (m := s.cfg.sh)); have hz3 := act_own HL2.out HZ2.out o3'; have hr3 := HR2.out.own HL2.out o3'; have H3 := Lib.hid h3; have O3 := Lib.hid o3'; have HR3 := Lib.hid hr3; clear h3 o3 o3' hr3)
          | (go_at_call 48; refine (refTake HR3.out hsm t _ r HR.out s' HS.out).mono ?_; rintro e w4 ⟨rfl, ⟨d4, h4⟩, o4⟩; have hz4 := o4.block hz3 (fun ⟨_, _, _, _, g1, g2⟩ => by rw [hz3] at g1; injection g1 with g1; injection g1 with _ g1 _; subst g1; revert g2; decide); have H4 := Lib.hid h4; have O4 := Lib.hid o4; clear h4 o4))
      all_goals
        go_wp2_with fail
        go_ret
        exact ⟨by simp, Both.step HB2.out HLO.out HLO'.out HL2.out H3.out O3.out H4.out O4.out⟩
end Go.Proofs.Ytibbnikfecilhaa
