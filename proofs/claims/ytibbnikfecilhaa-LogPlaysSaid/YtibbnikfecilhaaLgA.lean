/- Chapter 19: Answer. (Printed by lggen.py.) -/
import Derived.Test.YtibbnikfecilhaaLg9
namespace Go.Proofs.Ytibbnikfecilhaa
open Go.RowKit
open Go.Maps (Keyed)
set_option linter.unusedVariables false
set_option linter.unusedSimpArgs false

theorem ans_inv {v : Value} {z : DataW Unit × List MemPlace} (h : ansElem v = some z) : ∃ n : Int, v = .agg #[.int .i64 0, .int .i64 n, .slice none 0 0] ∧ z = (.lit (.int .i64 n), []) := by
  unfold ansElem at h
  split at h
  · rename_i a
    split at h
    · rename_i k0 z0 k1 z1 p l c he
      split at h
      · rename_i g
        obtain ⟨⟨rfl, rfl⟩, ⟨rfl, gp⟩, rfl, rfl⟩ := g
        obtain rfl : p = none := by simpa using gp
        refine ⟨z1, ?_, by injection h with h; exact h.symm⟩
        obtain ⟨al⟩ := a
        have he : al = _ := he
        subst he
        rfl
      · cases h
    · cases h
  · cases h
def ansD (D : DataW Unit) (ans : Int → Option Int) : Prop := ∀ k : Int, match ans k with | some z => Maps.has D (.int .i64 k) = true ∧ (∀ zd, D.atKey (.int .i64 k) zd = .lit (.int .i64 z)) | none => Maps.has D (.int .i64 k) = false
theorem ans_has {D : DataW Unit} {ans : Int → Option Int} (h : ansD D ans) (k : Int) : Maps.has D (.int .i64 k) = (ans k).isSome := by
  have := h k
  cases hc : ans k with
  | none => rw [hc] at this; exact this
  | some z => rw [hc] at this; exact this.1
theorem ans_val {D : DataW Unit} {ans : Int → Option Int} (h : ansD D ans) (k : Int) {v : Value} {ps : List MemPlace} (hv : ansElem v = some (D.atKey (.int .i64 k) (.lit (.int .i64 0)), ps)) : v = .agg #[.int .i64 0, .int .i64 ((ans k).getD 0), .slice none 0 0] := by
  obtain ⟨n, rfl, h2⟩ := ans_inv hv
  injection h2 with h2 _
  have := h k
  cases hc : ans k with
  | none =>
    rw [hc] at this
    rw [Maps.atKey_of_not_has this] at h2
    injection h2 with h2
    injection h2 with _ h2
    rw [← h2]
    rfl
  | some z =>
    rw [hc] at this
    rw [this.2] at h2
    injection h2 with h2
    injection h2 with _ h2
    rw [← h2]
    rfl
theorem ans_del {D : DataW Unit} {ans : Int → Option Int} (hm : Maps.IsMap D) (h : ansD D ans) (key : Int) : ansD (D.del (.int .i64 key)) (fun k => if k = key then none else ans k) := fun k => by
  by_cases e : k = key
  · subst e
    simp only [if_pos]
    exact Maps.has_del_same
  · have hne : (Lit.int .i64 k) ≠ Lit.int .i64 key := fun h => e (by injection h)
    have := h k
    simp only [if_neg e]
    cases hc : ans k with
    | none =>
      rw [hc] at this
      show Maps.has _ _ = false
      rw [Maps.has_del_other hne]
      exact this
    | some y =>
      rw [hc] at this
      refine ⟨?_, fun zd => ?_⟩
      · rw [Maps.has_del_other hne]; exact this.1
      · rw [Maps.atKey_del_other hne]; exact this.2 zd
theorem LogAt.ansd {w w' : World} {lo L : Nat} {b : LogB} {s : LogS} (h : LogAt w lo L b s) (ans' : Int → Option Int) (ha : AnsAt w' b.M s.low ans') (ho : Only (fun k => k = b.M) w w') : LogAt w' lo L b { s with ans := ans' } := by
  have nm : ∀ {k : Nat} {cs : Array Value} {t : TypeId} {fr : Nat × Nat}, w.heap[k]? = some (.cells cs t fr) → ¬ k = b.M := by
    rintro k cs t fr hk rfl
    obtain ⟨an, D, h0', ⟨es, clock, h1, h2⟩, h3⟩ := h.ans.ex
    rw [h1] at hk
    cases hk
  exact ⟨ho.block h.hL (nm h.hL), h.ring.kept ho (nm h.ring.hR) (nm h.ring.hB), ho.block h.curs (nm h.curs), ownsRow_keptT h.outs (fun k cs fr hc => ho.block hc (nm hc)), fun i hi => (h.orng i hi).kept ho (nm (h.orng i hi).hR) (nm (h.orng i hi).hB), h.apart, fun i p x hi hx => by
    rcases h.lost i p x hi hx with h1 | ⟨k, h1, h2, h3⟩
    · exact .inl h1
    · exact .inr ⟨k, h1, h2, ho.block h3 (nm h3)⟩, ha, ⟨h.inv.sh1, h.inv.sh2, h.inv.inb1, h.inv.inb2, h.inv.st1, h.inv.st2, h.inv.low, h.inv.room, h.inv.cmd, h.inv.cur1, h.inv.out, h.inv.cur2⟩, h.lo⟩
def LogS.asked (s : LogS) (at_ : Int) : LogS := { s with ans := fun k => if k = at_ then none else s.ans k }
theorem ainfo : (Try.prog.info? 58).map (·.size) = some 3 := by kernel_rfl
def alaid (w : World) (b : Nat) (v : Int) : World := ((w.setCell ⟨b, 0, none⟩ (.int .i64 0)).setCell ⟨b, 0 + 1, none⟩ (.int .i64 v)).setCell ⟨b, 0 + 2, none⟩ (.slice none 0 0)
def ansCells (v : Int) : List Value := [.int .i64 0, .int .i64 v, .slice none 0 0]
theorem alaid_eq (w : World) (b : Nat) (v : Int) : alaid w b v = puts w b 0 (ansCells v) := rfl
theorem zeroAns (w : World) : (zeroValue 58).run Try.prog w = .ok (.agg #[.int .i64 0, .int .i64 0, .slice none 0 0]) w := by kernel_rfl
set_option maxHeartbeats 4000000 in
theorem logAnswer {w : World} {lo L : Nat} {b : LogB} {s : LogS} (h : LogAt w lo L b s) (at_ : Int) (hk : -9223372036854775808 ≤ at_ ∧ at_ ≤ 9223372036854775807) (v : Int) (hv : (s.ans at_).getD 0 = v) (is : Bool) (his : (s.ans at_).isSome = is) :
    Calls Try.prog 22 #[.pointer (some ⟨L, 0, none⟩), .int .i64 at_] w fun e w' => e = .returned (.tuple #[.agg #[.int .i64 0, .int .i64 v, .slice none 0 0], .bool is]) ∧ LogAt w' lo L b (s.asked at_) ∧ Only (fun k => k = b.M) w w' := by
  obtain ⟨an, D, h0, hown, hD⟩ := h.ans.ex
  have hD : ansD D s.ans := hD
  have K : Keyed Try.prog 3 := Maps.int_keyed Try.underlying3
  have hb1 := bl_alloc (Below.refl _ w) (.cells #[.int .i64 0, .int .i64 0, .slice none 0 0] 58)
  have hz := alloc_new w (.cells #[.int .i64 0, .int .i64 0, .slice none 0 0] 58)
  have h1 := h.below hb1
  have own1 : (w.alloc (.cells #[.int .i64 0, .int .i64 0, .slice none 0 0] 58)).ownsMap Try.prog 3 ansElem b.M an D := by
    obtain ⟨es, clock, g1, g2⟩ := hown
    exact ⟨es, clock, (hb1.block _ (block_lt g1)).trans g1, g2⟩
  have own2 : ((w.alloc (.cells #[.int .i64 0, .int .i64 0, .slice none 0 0] 58)).alloc (.cells #[.int .i64 0, .int .i64 v, .slice none 0 0] 58)).ownsMap Try.prog 3 ansElem b.M an D := by
    obtain ⟨es, clock, g1, g2⟩ := own1
    exact ⟨es, clock, alloc_old g1 _, g2⟩
  have c14 : (w.alloc (.cells #[.int .i64 0, .int .i64 0, .slice none 0 0] 58)).cell? ⟨L, 14, none⟩ = some (.map (some b.M)) := lgCell h1 14
  have h2 := h1.below (bl_alloc (Below.refl _ _) (.cells #[.int .i64 0, .int .i64 v, .slice none 0 0] 58))
  have d14 : ((w.alloc (.cells #[.int .i64 0, .int .i64 0, .slice none 0 0] 58)).alloc (.cells #[.int .i64 0, .int .i64 v, .slice none 0 0] 58)).cell? ⟨L, 14, none⟩ = some (.map (some b.M)) := lgCell h2 14
  have hz2 := alloc_old hz (.cells #[.int .i64 0, .int .i64 v, .slice none 0 0] 58)
  have hx2 := alloc_new (w.alloc (.cells #[.int .i64 0, .int .i64 0, .slice none 0 0] 58)) (.cells #[.int .i64 0, .int .i64 v, .slice none 0 0] 58)
  rw [show (w.alloc (.cells #[.int .i64 0, .int .i64 0, .slice none 0 0] 58)).heap.size = w.heap.size + 1 by simp] at hx2
  have hne : w.heap.size ≠ w.heap.size + 1 := by omega
  have step : ∀ w', w'.ownsMap Try.prog 3 ansElem b.M an (D.del (.int .i64 at_)) → World.mapTurned ((w.alloc (.cells #[.int .i64 0, .int .i64 0, .slice none 0 0] 58)).alloc (.cells #[.int .i64 0, .int .i64 v, .slice none 0 0] 58)) w' b.M →
      LogAt w' lo L b (s.asked at_) ∧ Only (fun k => k = b.M) w w' ∧ w'.heap[w.heap.size]? = some (.cells #[.int .i64 0, .int .i64 0, .slice none 0 0] 58 (0, 0)) ∧ w'.heap[w.heap.size + 1]? = some (.cells #[.int .i64 0, .int .i64 v, .slice none 0 0] 58 (0, 0)) := fun w' g1 g2 => by
    have ho := only_turned g2
    have nm : ∀ {k : Nat} {cs : Array Value} {t : TypeId} {fr : Nat × Nat}, ((w.alloc (.cells #[.int .i64 0, .int .i64 0, .slice none 0 0] 58)).alloc (.cells #[.int .i64 0, .int .i64 v, .slice none 0 0] 58)).heap[k]? = some (.cells cs t fr) → ¬ k = b.M := by
      rintro k cs t fr hk rfl
      obtain ⟨es, clock, g1, _⟩ := own2
      rw [g1] at hk
      cases hk
    refine ⟨h2.ansd _ ⟨an, _, h0, g1, ans_del own2.isMap hD at_⟩ ho, (((Only.refl _ w).alloc _).alloc _).trans ho, ho.block hz2 (nm hz2), ho.block hx2 (nm hx2)⟩
  have STEP := Lib.hid step
  have HD := Lib.hid hD
  have hhas := ans_has hD at_
  rw [his] at hhas
  have HHAS := Lib.hid hhas
  have hval : ∀ v' ps, ansElem v' = some (D.atKey (.int .i64 at_) (.lit (.int .i64 0)), ps) → v' = .agg #[.int .i64 0, .int .i64 v, .slice none 0 0] := fun v' ps hh => by
    have := ans_val hD at_ hh
    rw [hv] at this
    exact this
  have HVAL := Lib.hid hval
  have OWN1 := Lib.hid own1
  have OWN2 := Lib.hid own2
  clear h hown hD hb1 hz h1 own1 own2 h2 hz2 hx2 step hhas hval hv his h0
  go_enter Try.func22, Try.ntmps22
  go_wp2_with (first
    | (at_lookup
       refine wpList_lookup_own_ok _ rfl _ _ 91 rfl 3 58 K Try.underlying91 ansElem (zeroAns _) (.lit (.int .i64 0)) [] rfl b.M an D rfl OWN1.out _ (.int .i64 at_) rfl (Maps.keyOf_int_mk Try.underlying3 (wf64 hk)) ?_
       intro v' ps hv'
       have hv2 := HVAL.out v' ps hv'
       subst hv2
       rw [HHAS.out])
    | (at_delete
       refine wpList_delete_own _ rfl _ _ 91 3 rfl 58 K Try.underlying91 ansElem b.M an D rfl OWN2.out _ (.int .i64 at_) rfl (Maps.keyOf_int_mk Try.underlying3 (wf64 hk)) ?_
       intro w5 hown5 hturn5
       obtain ⟨hl5, ho5, hz5, hx5⟩ := STEP.out w5 hown5 hturn5
       have HL5 := Lib.hid hl5
       have HO5 := Lib.hid ho5
       have HZ5 := Lib.hid hz5
       have a0 : w5.cell? ⟨w.heap.size, 0, none⟩ = some (.int .i64 0) := cell_of_blk (cs := [.int .i64 0, .int .i64 0, .slice none 0 0]) hz5 0
       have a1 : w5.cell? ⟨w.heap.size, 1, none⟩ = some (.int .i64 0) := cell_of_blk (cs := [.int .i64 0, .int .i64 0, .slice none 0 0]) hz5 1
       have a2 : w5.cell? ⟨w.heap.size, 2, none⟩ = some (.slice none 0 0) := cell_of_blk (cs := [.int .i64 0, .int .i64 0, .slice none 0 0]) hz5 2
       have f0 : w5.frozen? ⟨w.heap.size, 0, none⟩ = false := free_of_blk (cs := [.int .i64 0, .int .i64 0, .slice none 0 0]) hz5 0
       have f1 : w5.frozen? ⟨w.heap.size, 1, none⟩ = false := free_of_blk (cs := [.int .i64 0, .int .i64 0, .slice none 0 0]) hz5 1
       have f2 : w5.frozen? ⟨w.heap.size, 2, none⟩ = false := free_of_blk (cs := [.int .i64 0, .int .i64 0, .slice none 0 0]) hz5 2
       have e0 : w5.cell? ⟨w.heap.size + 1, 0, none⟩ = some ([Value.int .i64 0, .int .i64 v, .slice none 0 0][0]) := cell_of_blk (cs := [.int .i64 0, .int .i64 v, .slice none 0 0]) hx5 0
       have e1 : w5.cell? ⟨w.heap.size + 1, 1, none⟩ = some ([Value.int .i64 0, .int .i64 v, .slice none 0 0][1]) := cell_of_blk (cs := [.int .i64 0, .int .i64 v, .slice none 0 0]) hx5 1
       have e2 : w5.cell? ⟨w.heap.size + 1, 2, none⟩ = some ([Value.int .i64 0, .int .i64 v, .slice none 0 0][2]) := cell_of_blk (cs := [.int .i64 0, .int .i64 v, .slice none 0 0]) hx5 2
       simp only [List.getElem_cons_zero, List.getElem_cons_succ] at e0 e1 e2
       clear hl5 ho5 hz5 hx5 hown5 hturn5))
  change bodyPost _ _ _ _ _ (alaid w5 w.heap.size v)
  refine bodyPost_ret (v := .tuple #[.agg (ansCells v).toArray, .bool is]) ?_ rfl ⟨rfl, ?_, ?_⟩
  · refine cresults (p := 4) (u := 5) rfl _ _ w.heap.size 58 (ansCells v).toArray (0, 0) _ rfl ?_ Try.underlying58 rfl ainfo
    rw [alaid_eq, puts_same (ansCells v) w5 [.int .i64 0, .int .i64 0, .slice none 0 0] 0 HZ5.out]
    rfl
  · rw [alaid_eq]
    refine HL5.out.keptT fun k o hk hT => (puts_only (S := fun k => k = w.heap.size) rfl _ _ _ _ (Only.refl _ _)).block hk ?_
    rintro rfl
    rw [HZ5.out] at hk
    injection hk with hk
    subst hk
    simp [logT] at hT
  · rw [alaid_eq]
    exact puts_new (Nat.le_refl _) _ _ _ HO5.out
end Go.Proofs.Ytibbnikfecilhaa
