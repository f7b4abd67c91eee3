/- Chapter 19: Reply, Answer. (Printed by lggen.py.) -/
import Derived.Test.YtibbnikfecilhaaLg7
namespace Go.Proofs.Ytibbnikfecilhaa
open Go.RowKit
open Go.Maps (Keyed)
set_option linter.unusedVariables false
set_option linter.unusedSimpArgs false

theorem only_turned {w w' : World} {b : Nat} (h : w.mapTurned w' b) : Only (fun k => k = b) w w' := only_grown (Only.refl _ _) h.grown (fun k hk => .inl (by injection hk with hk; exact hk.symm))
theorem wf64 {z : Int} (h : -9223372036854775808 ≤ z ∧ z ≤ 9223372036854775807) : (Lit.int .i64 z).wf = true := by
  have := wrap64_wf z
  rwa [show wrap64 z = z by unfold wrap64; omega] at this
theorem isKey64 (z : Int) : WideAt.IsKeyLit (.int .i64 z) := by simp [WideAt.IsKeyLit]
theorem ans_store {w : World} {M n : Nat} {ans : Int → Option Int} (h : AnsAt w M n ans) (hn : n ≤ 1099511627776) {key z : Int} (hk : -9223372036854775808 ≤ key ∧ key ≤ 9223372036854775807) :
    ∃ w', (Instr.mapUpdate 91 (.map (some M)) (.int .i64 key) (.agg #[.int .i64 0, .int .i64 z, .slice none 0 0])).run Try.prog w = .ok () w' ∧ AnsAt w' M (n + 1) (fun k => if k = key then some z else ans k) ∧ Only (fun k => k = M) w w' := by
  obtain ⟨an, D, han, hown, hD⟩ := h.ex
  have K : Keyed Try.prog 3 := Maps.int_keyed Try.underlying3
  have hm := hown.isMap
  obtain ⟨w', hrun, ho', ht⟩ := hown.store K Try.underlying91 (by simp only [maxLen]; omega) (key := .int .i64 key) (kl := .int .i64 key) (val := .agg #[.int .i64 0, .int .i64 z, .slice none 0 0]) (d := .lit (.int .i64 z)) (ps := []) (Maps.keyOf_int_mk Try.underlying3 (wf64 hk)) rfl
  refine ⟨w', hrun, ⟨an + 1, _, by omega, ho', fun k => ?_⟩, only_turned ht⟩
  by_cases e : k = key
  · subst e
    rw [if_pos rfl]
    exact ⟨Maps.has_put_same hm (isKey64 _) _, fun zd => Maps.atKey_put_same hm (isKey64 _) _ _⟩
  · have hne : (Lit.int .i64 k) ≠ Lit.int .i64 key := fun h => e (by injection h)
    rw [if_neg e]
    have := hD k
    cases hc : ans k with
    | none =>
      rw [hc] at this
      show Maps.has _ _ = false
      rw [Maps.has_put_other hne]
      exact this
    | some y =>
      rw [hc] at this
      refine ⟨?_, fun zd => ?_⟩
      · rw [Maps.has_put_other hne]; exact this.1
      · rw [Maps.atKey_put_other hne]; exact this.2 zd
theorem RepAt.start {w w' : World} {lo L : Nat} {b : LogB} {s : LogS} (h : LogAt w lo L b s) (hr : cAt w' b.R b.B s.cfg.inb ((s.low + 1 : Nat) : Int) (ringOf CmdV.zero (s.low + 1) s.cfg.inb s.cmd)) (ho : Only (fun k => k = b.R ∨ k = b.B) w w') : RepAt w' lo L b s s.ans 0 := by
  have ne : ∀ {k : Nat} {cs : Array Value} {t : TypeId} {fr : Nat × Nat}, w.heap[k]? = some (.cells cs t fr) → t ≠ 117 → t ≠ 124 → ¬ (k = b.R ∨ k = b.B) := fun h1 h2 h3 e => e.elim (blk_ne h1 h.ring.hR h2) (blk_ne h1 h.ring.hB h3)
  refine ⟨ho.block h.hL (ne h.hL (by decide) (by decide)), hr, ho.block h.curs (ne h.curs (by decide) (by decide)), ownsRow_keptT h.outs (fun k cs fr hc => ho.block hc (ne hc (by decide) (by decide))), fun i hi h2 => absurd h2 (Nat.not_lt_zero _), fun i hi _ => (h.orng i hi).kept ho (ne (h.orng i hi).hR (by decide) (by decide)) (ne (h.orng i hi).hB (by decide) (by decide)), h.apart, fun i p x hi hx => ?_, ?_⟩
  · rcases h.lost i p x hi hx with h1 | ⟨k, h1, h2, h3⟩
    · exact .inl h1
    · exact .inr ⟨k, h1, h2, ho.block h3 (ne h3 (by decide) (by decide))⟩
  · obtain ⟨an, D, h0', ⟨es, clock, h1, h2⟩, h3⟩ := h.ans.ex
    refine ⟨an, D, Nat.le_succ_of_le h0', ⟨es, clock, ho.block h1 ?_, h2⟩, h3⟩
    rintro (e | e)
    · rw [e, h.ring.hR] at h1; cases h1
    · rw [e, h.ring.hB] at h1; cases h1
theorem not_map {w : World} {lo L : Nat} {b : LogB} {s : LogS} {ans : Int → Option Int} {I : Nat} (h : RepAt w lo L b s ans I) {k : Nat} {cs : Array Value} {t : TypeId} {fr : Nat × Nat} (hk : w.heap[k]? = some (.cells cs t fr)) : ¬ k = b.M := by
  rintro rfl
  obtain ⟨an, D, h0', ⟨es, clock, h1, h2⟩, h3⟩ := h.ans.ex
  rw [h1] at hk
  cases hk
theorem RepAt.ansd {w w' : World} {lo L : Nat} {b : LogB} {s : LogS} {ans : Int → Option Int} {I : Nat} (h : RepAt w lo L b s ans I) (ans' : Int → Option Int) (ha : AnsAt w' b.M (s.low + 1) ans') (ho : Only (fun k => k = b.M) w w') : RepAt w' lo L b s ans' I :=
  ⟨ho.block h.hL (not_map h h.hL), h.ring.kept ho (not_map h h.ring.hR) (not_map h h.ring.hB), ho.block h.curs (not_map h h.curs), ownsRow_keptT h.outs (fun k cs fr hc => ho.block hc (not_map h hc)), fun i hi h2 => (h.done i hi h2).kept ho (not_map h (h.done i hi h2).hR) (not_map h (h.done i hi h2).hB), fun i hi h2 => (h.todo i hi h2).kept ho (not_map h (h.todo i hi h2).hR) (not_map h (h.todo i hi h2).hB), h.apart, fun i p x hi hx => by
    rcases h.lost i p x hi hx with h1 | ⟨k, h1, h2, h3⟩
    · exact .inl h1
    · exact .inr ⟨k, h1, h2, ho.block h3 (not_map h h3)⟩, ha⟩
def LogS.answered (s : LogS) (kd an : Int) : Int → Option Int := if kd = 1 then s.ans else fun k => if k = (s.low : Int) then some an else s.ans k
def LogS.replied (s : LogS) (kd an : Int) : LogS := { s with low := s.low + 1, ans := s.answered kd an }
/-- One worker's ring, led on by three calls. -/
theorem RepAt.calls {w : World} {lo L : Nat} {b : LogB} {s : LogS} {ans : Int → Option Int} {I : Nat} (h : RepAt w lo L b s ans I) (hi : LogI s) (hI : I < s.cfg.sh) (W : World) (hW : Below w.heap.size w W) :
    (∃ x : OutV, Calls Try.prog 45 #[.pointer (some ⟨b.rw I, 0, none⟩)] W fun e W' => e = .returned (.tuple #[.agg x.cells.toArray, .bool true]) ∧ RepAt W' lo L b s ans (I + 1) ∧ Only (fun k => k = b.rw I ∨ k = b.bw I) W W') ∨
    Calls Try.prog 45 #[.pointer (some ⟨b.rw I, 0, none⟩)] W fun e W' => e = .returned (.tuple #[.agg #[.slice none 0 0, .slice none 0 0, .slice none 0 0, .slice none 0 0], .bool false]) ∧ Below W.heap.size W W' ∧
      ∀ W2, Below W'.heap.size W' W2 → Calls Try.prog 40 #[.pointer (some ⟨b.rw I, 0, none⟩), .int .i64 s.low, .agg #[.slice none 0 0, .slice none 0 0, .slice none 0 0, .slice none 0 0]] W2 fun e W3 => e = .returned (.bool true) ∧
        Calls Try.prog 45 #[.pointer (some ⟨b.rw I, 0, none⟩)] W3 fun e W4 => (∃ v, e = .returned v) ∧ RepAt W4 lo L b s ans (I + 1) ∧ Only (fun k => k = b.rw I ∨ k = b.bw I) W2 W4 := by
  have hh := h.below hW
  have h0 := hh.todo I hI (Nat.le_refl _)
  have hn1 := hi.inb1
  have hl : s.low < 4611686018427387904 := by have := hi.st1; have := hi.st2; have := hi.low; omega
  have hout : s.outv I (s.low + s.cfg.inb) = none := by
    unfold LogS.outv
    rw [hi.out I _ hi.room]
    rfl
  cases hx : s.outv I s.low with
  | some x =>
    refine .inl ⟨x, (odrop_told h0 hout hl hx).mono ?_⟩
    rintro e W' ⟨rfl, h1, h2⟩
    exact ⟨rfl, hh.next hI h2 h1, h2⟩
  | none =>
    refine .inr ((odrop_none h0 hx).mono ?_)
    rintro e W' ⟨rfl, hb'⟩
    refine ⟨rfl, hb', fun W2 hW2 => ?_⟩
    have hh2 := (hh.below hb').below hW2
    have h02 := hh2.todo I hI (Nat.le_refl _)
    refine (oput_none h02 hx hl).mono ?_
    rintro e W3 ⟨rfl, h3, ho3⟩
    refine ⟨rfl, ?_⟩
    refine (odrop_told h3 (by rw [upd_other _ _ (by omega)]; exact hout) hl (upd_same _ _ _)).mono ?_
    rintro e W4 ⟨rfl, h4, ho4⟩
    have ho24 := (ho3.mono (T := fun k => k = b.rw I ∨ k = b.bw I) (fun k hk => .inr hk)).trans ho4
    rw [ringOf_congr OutV.zero (g := s.outv I) (fun p h1 _ => upd_other _ _ (by omega))] at h4
    exact ⟨⟨_, rfl⟩, hh2.next hI ho24 h4, ho24⟩
set_option maxHeartbeats 4000000 in
theorem logReply {w : World} {lo L : Nat} {b : LogB} {s : LogS} (h : LogAt w lo L b s) (an : Int) (hno : s.collect = none) :
    Calls Try.prog 20 #[.pointer (some ⟨L, 0, none⟩), .agg #[.int .i64 0, .int .i64 an, .slice none 0 0]] w fun e w' => e = .returned (.bool false) ∧ Below w.heap.size w w' := by
  have hb1 := bl_alloc (Below.refl _ w) (.cells #[.int .i64 0, .int .i64 an, .slice none 0 0] 58)
  have HC := Lib.hid (logCollect (h.below hb1) none hno)
  have HB := Lib.hid hb1
  clear h hb1
  go_enter Try.func20, Try.ntmps20
  go_wp2_with fail
  refine HC.out.mono ?_
  rintro e w2 ⟨rfl, hb2⟩
  have HB2 := Lib.hid (bl_then HB.out hb2)
  clear hb2
  go_wp2_with fail
  go_ret
  exact ⟨rfl, HB2.out⟩
end Go.Proofs.Ytibbnikfecilhaa
