/- Chapter 19: the document's Answer. (Printed by lggen.py.) -/
import Derived.Test.YtibbnikfecilhaaLgD6
namespace Go.Proofs.Ytibbnikfecilhaa
open Go.RowKit
set_option linter.unusedVariables false
set_option linter.unusedSimpArgs false

section
variable {w : World} {lo D C : Nat} {d : DocB} {s : LogS}
theorem asked_eq {k : Int} (h : s.ans k = none) : s.asked k = s := by
  have e := asked_same h
  obtain ⟨cfg, tail, low, closed, cmd, cur, out, ans⟩ := s
  unfold LogS.asked at e ⊢
  simp only at e ⊢
  rw [e]
theorem RefAt.answered (h : RefAt w lo D C d s) {p : Nat} (hp : p < s.tail) {g : Nat} (hA : d.A = some ⟨g, 0, none⟩) : RefAt (w.setCell ⟨g, p * 20 + 1, none⟩ (.bool false)) lo D C d (s.asked p) ∧ Only (DocK lo w) w (w.setCell ⟨g, p * 20 + 1, none⟩ (.bool false)) := by
  obtain ⟨g', cs, hA', hglo, _, hgc, _, _⟩ := h.mem.block (by show 0 < s.tail; omega)
  obtain rfl : g = g' := by
    have e : d.A = some ⟨g', 0, none⟩ := hA'
    rw [hA] at e
    injection e with e
    injection e
  have ho : Only (DocK lo w) w (w.setCell ⟨g, p * 20 + 1, none⟩ (.bool false)) := (Only.refl _ _).setCell _ _ (.inl ⟨hglo, _, _, _, hgc, .inr (.inl rfl)⟩)
  have hm : RefM (w.setCell ⟨g, p * 20 + 1, none⟩ (.bool false)) lo D { docM d s with cf := upd (cellOf d s) p (putL (cellOf d s p) 1 [.bool false]) } := h.mem.cellput (g := g) (p := p) (o := 1) hA hp [.bool false] (by decide)
  have han : ∀ q : Nat, (s.asked p).ans q = if q = p then none else s.ans q := fun q => by
    show (if (q : Int) = p then none else s.ans q) = _
    by_cases e : q = p
    · rw [if_pos (by omega), if_pos e]
    · rw [if_neg (by omega), if_neg e]
  refine ⟨⟨hm.congr rfl ⟨rfl, rfl, rfl, rfl, rfl, rfl⟩ (fun q hq => ?_) (fun i _ => rfl) (fun q i _ _ => rfl) (docM_len _ _), fun q i hq hi => (h.lost q i hq hi).keptK ho, h.cur, h.at0, fun q z hq => ?_, fun k hk => ?_, h.inv.reans _, h.small⟩, ho⟩
  · show upd (cellOf d s) p (putL (cellOf d s p) 1 [.bool false]) q = cellOf d (s.asked p) q
    have e0 := han q
    by_cases e : q = p
    · subst e
      rw [if_pos rfl] at e0
      rw [upd_same]
      unfold cellOf
      rw [e0]
      rfl
    · rw [if_neg e] at e0
      rw [upd_other _ _ e]
      unfold cellOf
      rw [e0]
      rfl
  · rw [han] at hq
    split at hq
    · cases hq
    · exact h.ans q z hq
  · have e : (s.asked p).ans k = if k = p then none else s.ans k := rfl
    rw [e] at hk
    split at hk
    · cases hk
    · exact h.ansIn k hk
set_option maxHeartbeats 8000000 in
set_option maxRecDepth 20000 in
theorem refAnswer (h : RefAt w lo D C d s) (at_ : Int) (v : Int) (hv : (s.ans at_).getD 0 = v) (is : Bool) (his : (s.ans at_).isSome = is) :
    Calls Try.prog 53 #[.pointer (some ⟨D, 0, none⟩), .int .i64 at_] w fun e w' => e = .returned (.tuple #[.agg #[.int .i64 0, .int .i64 v, .slice none 0 0], .bool is]) ∧ RefAt w' lo D C d (s.asked at_) ∧ Only (DocK lo w) w w' := by
  have hb := bl_alloc (Below.refl _ w) (.cells #[.int .i64 0, .int .i64 0, .slice none 0 0] 58)
  have hz := alloc_new w (.cells #[.int .i64 0, .int .i64 0, .slice none 0 0] 58)
  have h1 := h.below hb
  have c7 : (w.alloc (.cells #[.int .i64 0, .int .i64 0, .slice none 0 0] 58)).cell? ⟨D, 7, none⟩ = some (.slice d.A s.tail d.cap) := h1.cell 7
  have ho1 : Only (DocK lo w) w (w.alloc (.cells #[.int .i64 0, .int .i64 0, .slice none 0 0] 58)) := Only.of_below hb
  have hbnd := h.small
  cases ha : s.ans at_ with
  | none =>
    rw [ha] at hv his
    obtain rfl : v = 0 := hv.symm
    obtain rfl : is = false := his.symm
    rw [asked_eq ha]
    have HH := Lib.hid h1
    have HO := Lib.hid ho1
    have HZ := Lib.hid hz
    by_cases g1 : at_ < 0
    · clear h h1 hb hz ho1 hv his ha
      go_enter Try.func53, Try.ntmps53
      have z0 : (w.alloc (.cells #[.int .i64 0, .int .i64 0, .slice none 0 0] 58)).cell? ⟨w.heap.size, 0, none⟩ = some (.int .i64 0) := cell_of_blk (cs := [.int .i64 0, .int .i64 0, .slice none 0 0]) HZ.out 0
      have z1 : (w.alloc (.cells #[.int .i64 0, .int .i64 0, .slice none 0 0] 58)).cell? ⟨w.heap.size, 1, none⟩ = some (.int .i64 0) := cell_of_blk (cs := [.int .i64 0, .int .i64 0, .slice none 0 0]) HZ.out 1
      have z2 : (w.alloc (.cells #[.int .i64 0, .int .i64 0, .slice none 0 0] 58)).cell? ⟨w.heap.size, 2, none⟩ = some (.slice none 0 0) := cell_of_blk (cs := [.int .i64 0, .int .i64 0, .slice none 0 0]) HZ.out 2
      go_wp2_with fail
      refine bodyPost_ret (v := .tuple #[.agg #[.int .i64 0, .int .i64 0, .slice none 0 0], .bool false]) ?_ rfl ⟨rfl, HH.out, HO.out⟩
      exact cresults (p := 4) (u := 5) rfl _ _ w.heap.size 58 (ansCells 0).toArray (0, 0) _ rfl HZ.out Try.underlying58 rfl ainfo
    · by_cases g2 : at_ < s.tail
      · obtain ⟨p, rfl⟩ : ∃ p : Nat, at_ = p := ⟨at_.toNat, by omega⟩
        obtain ⟨g, hA, _, hcap, _, hcg, _⟩ := h1.block (show p < s.tail by omega)
        have x1 : (w.alloc (.cells #[.int .i64 0, .int .i64 0, .slice none 0 0] 58)).cell? ⟨g, p * 20 + 1, none⟩ = some (.bool false) := by
          have := hcg 1 (by decide)
          rw [this]
          show some (Value.bool (s.ans p).isSome) = _
          rw [ha]
          rfl
        rw [hA] at c7
        clear h h1 hb hz ho1 hv his ha hA hcg
        go_enter Try.func53, Try.ntmps53
        go_wp2_with fail
        refine bodyPost_ret (v := .tuple #[.agg #[.int .i64 0, .int .i64 0, .slice none 0 0], .bool false]) ?_ rfl ⟨rfl, HH.out, HO.out⟩
        exact cresults (p := 4) (u := 5) rfl _ _ w.heap.size 58 (ansCells 0).toArray (0, 0) _ rfl HZ.out Try.underlying58 rfl ainfo
      · clear h h1 hb hz ho1 hv his ha
        go_enter Try.func53, Try.ntmps53
        go_wp2_with fail
        refine bodyPost_ret (v := .tuple #[.agg #[.int .i64 0, .int .i64 0, .slice none 0 0], .bool false]) ?_ rfl ⟨rfl, HH.out, HO.out⟩
        exact cresults (p := 4) (u := 5) rfl _ _ w.heap.size 58 (ansCells 0).toArray (0, 0) _ rfl HZ.out Try.underlying58 rfl ainfo
  | some z =>
    rw [ha] at hv his
    obtain rfl : v = z := hv.symm
    obtain rfl : is = true := his.symm
    obtain ⟨q1, q2⟩ := h.ansIn at_ (by rw [ha]; rfl)
    obtain ⟨p, rfl⟩ : ∃ p : Nat, at_ = p := ⟨at_.toNat, by omega⟩
    have hp : p < s.tail := by omega
    have haN := h.ans p v ha
    obtain ⟨g, cs, hA, _, hcap, hgc, hcg, hfg⟩ := h1.mem.block (show 0 < s.tail by omega)
    change d.A = some ⟨g, 0, none⟩ at hA
    have x1 : (w.alloc (.cells #[.int .i64 0, .int .i64 0, .slice none 0 0] 58)).cell? ⟨g, p * 20 + 1, none⟩ = some (.bool true) := by
      have := hcg p 1 hp (by decide)
      rw [this]
      show some (Value.bool (s.ans p).isSome) = _
      rw [ha]
      rfl
    have x17 : (w.alloc (.cells #[.int .i64 0, .int .i64 0, .slice none 0 0] 58)).cell? ⟨g, p * 20 + 17, none⟩ = some (.int .i64 0) := hcg p 17 hp (by decide)
    have x18 : (w.alloc (.cells #[.int .i64 0, .int .i64 0, .slice none 0 0] 58)).cell? ⟨g, p * 20 + 18, none⟩ = some (.int .i64 v) := by rw [← haN]; exact hcg p 18 hp (by decide)
    have x19 : (w.alloc (.cells #[.int .i64 0, .int .i64 0, .slice none 0 0] 58)).cell? ⟨g, p * 20 + 19, none⟩ = some (.slice none 0 0) := hcg p 19 hp (by decide)
    have f1 := hfg (p * 20 + 1)
    obtain ⟨hfin, hofin⟩ := h1.answered hp hA
    have hDg : D ≠ g := blk_ne h1.mem.hD hgc (by decide)
    have hZg : w.heap.size ≠ g := blk_ne hz hgc (by decide)
    have hz2 := setCell_other hz (i := p * 20 + 1) hZg (.bool false)
    have HF := Lib.hid hfin
    have HOF := Lib.hid (only_dock ho1 hofin)
    have HZ := Lib.hid hz
    have HZ2 := Lib.hid hz2
    rw [hA] at c7
    change s.tail ≤ d.cap at hcap
    clear h h1 hb hz ho1 hv his ha hA hcg hfg hgc hfin hofin hz2 haN
    go_enter Try.func53, Try.ntmps53
    have z0 : (w.alloc (.cells #[.int .i64 0, .int .i64 0, .slice none 0 0] 58)).cell? ⟨w.heap.size, 0, none⟩ = some (.int .i64 0) := cell_of_blk (cs := [.int .i64 0, .int .i64 0, .slice none 0 0]) HZ.out 0
    have z1 : (w.alloc (.cells #[.int .i64 0, .int .i64 0, .slice none 0 0] 58)).cell? ⟨w.heap.size, 1, none⟩ = some (.int .i64 0) := cell_of_blk (cs := [.int .i64 0, .int .i64 0, .slice none 0 0]) HZ.out 1
    have z2 : (w.alloc (.cells #[.int .i64 0, .int .i64 0, .slice none 0 0] 58)).cell? ⟨w.heap.size, 2, none⟩ = some (.slice none 0 0) := cell_of_blk (cs := [.int .i64 0, .int .i64 0, .slice none 0 0]) HZ.out 2
    have y0 : (w.alloc (.cells #[.int .i64 0, .int .i64 0, .slice none 0 0] 58)).frozen? ⟨w.heap.size, 0, none⟩ = false := free_of_blk (cs := [.int .i64 0, .int .i64 0, .slice none 0 0]) HZ.out 0
    have y1 : (w.alloc (.cells #[.int .i64 0, .int .i64 0, .slice none 0 0] 58)).frozen? ⟨w.heap.size, 1, none⟩ = false := free_of_blk (cs := [.int .i64 0, .int .i64 0, .slice none 0 0]) HZ.out 1
    have y2 : (w.alloc (.cells #[.int .i64 0, .int .i64 0, .slice none 0 0] 58)).frozen? ⟨w.heap.size, 2, none⟩ = false := free_of_blk (cs := [.int .i64 0, .int .i64 0, .slice none 0 0]) HZ.out 2
    go_wp2_with fail
    change bodyPost _ _ _ _ _ (alaid ((w.alloc (.cells #[.int .i64 0, .int .i64 0, .slice none 0 0] 58)).setCell ⟨g, p * 20 + 1, none⟩ (.bool false)) w.heap.size v)
    refine bodyPost_ret (v := .tuple #[.agg (ansCells v).toArray, .bool true]) ?_ rfl ⟨rfl, ?_, ?_⟩
    · refine cresults (p := 4) (u := 5) rfl _ _ w.heap.size 58 (ansCells v).toArray (0, 0) _ rfl ?_ Try.underlying58 rfl ainfo
      rw [alaid_eq, puts_same (ansCells v) _ [.int .i64 0, .int .i64 0, .slice none 0 0] 0 HZ2.out]
      rfl
    · rw [alaid_eq]
      refine HF.out.keptD fun k o hk hT => (puts_only (S := fun k => k = w.heap.size) rfl _ _ _ _ (Only.refl _ _)).block hk ?_
      rintro rfl
      rw [HZ2.out] at hk
      injection hk with hk
      subst hk
      simp [docT] at hT
    · rw [alaid_eq]
      exact puts_new (Nat.le_refl _) _ _ _ HOF.out
end
end Go.Proofs.Ytibbnikfecilhaa
