/- Chapter 19: rest; one command after the other, each answered. -/
import Derived.Test.YtibbnikfecilhaaLgX
import Derived.Test.YtibbnikfecilhaaRead
namespace Go.Proofs.Ytibbnikfecilhaa
open Go.RowKit
set_option linter.unusedVariables false
set_option linter.unusedSimpArgs false

theorem rest_eq (x n : Int) : (x.tmod n + n) % n = x % n := by
  rw [Int.add_emod_right, Int.tmod_def, Int.sub_mul_emod_self_left]
theorem rest_any (x n : Int) (w : World) (hn : 0 < n) (h2 : n ≤ 4611686018427387904) :
    Calls Try.prog 10 #[.int .i64 x, .int .i64 n] w fun e w' => e = .returned (.int .i64 (x % n)) ∧ w = w' := by
  have h3 := Int.tmod_lt_of_pos x hn
  have h4 := Int.lt_tmod_of_pos x hn
  have hz : (n == 0) = false := by simp; omega
  rw [← rest_eq]
  go_enter Try.func10, Try.ntmps10
  go_wp2
  go_ret
  exact ⟨rfl, rfl⟩
theorem IntsAt.below {w w' : World} {a : Option Addr} {n : Nat} {zs : List Int} (h : IntsAt w a n zs) (hb : Below w.heap.size w w') : IntsAt w' a n zs :=
  ⟨h.len, h.small, fun hp => by
    obtain ⟨b, off, ha, hlt, hc⟩ := h.cells hp
    exact ⟨b, off, ha, Nat.lt_of_lt_of_le hlt hb.size, fun i hi => (hb.cell (p := ⟨b, off + i, none⟩) hlt).trans (hc i hi)⟩, h.wf⟩
theorem IntsAt.at_ {w : World} {a : Option Addr} {n : Nat} {zs : List Int} (h : IntsAt w a n zs) {i : Nat} (hi : i < n) : ∃ b off, a = some ⟨b, off, none⟩ ∧ ∀ W, Below w.heap.size w W → W.cell? ⟨b, off + i, none⟩ = some (.int .i64 (zs.getD i 0)) := by
  obtain ⟨b, off, ha, hlt, hc⟩ := h.cells (by omega)
  exact ⟨b, off, ha, fun W hW => (hW.cell (p := ⟨b, off + i, none⟩) hlt).trans (hc i hi)⟩
def c99 : CfgV := ⟨1, 2, 1, 1, 1, 1, 99⟩
/-- The kind of a command, by a number. -/
def kdOf (zs : List Int) (i : Nat) : Int := 1 + zs.getD i 0 % 4
def ansTo (zs : List Int) (i : Nat) (k : Int) : Option Int := if 0 ≤ k ∧ k < i ∧ kdOf zs k.toNat ≠ 1 then some (100 + k) else none
/-- Behind so many commands. -/
structure AnsI (zs : List Int) (s : LogS) (i : Nat) : Prop where
  cfg : s.cfg = c99
  tail : s.tail = i
  low : s.low = i
  closed : s.closed = false
  cur : s.cur 0 = i
  ans : s.ans = ansTo zs i
theorem AnsI.init (zs : List Int) : AnsI zs (LogS.init c99) 0 := ⟨rfl, rfl, rfl, rfl, rfl, by
  funext k
  exact (if_neg (by omega)).symm⟩
/-- What is left of the answers, behind so many that were asked for. -/
def ansLeft (zs : List Int) (n r0 j : Nat) (k : Int) : Option Int := if ∃ m, m < j ∧ k = ((r0 + m) % n : Nat) then none else ansTo zs n k
theorem ansLeft_zero (zs : List Int) (n r0 : Nat) : ansLeft zs n r0 0 = ansTo zs n := by
  funext k
  exact if_neg (by rintro ⟨m, hm, _⟩; omega)
theorem ansLeft_at {zs : List Int} {n r0 j : Nat} (hj : j < n) : ansLeft zs n r0 j ((r0 + j) % n : Nat) = ansTo zs n ((r0 + j) % n : Nat) := by
  refine if_neg ?_
  rintro ⟨m, hm, h⟩
  have e : (r0 + j) % n = (r0 + m) % n := by omega
  have h3 := Nat.mod_add_div (r0 + j) n
  have h4 := Nat.mod_add_div (r0 + m) n
  rw [e] at h3
  generalize (r0 + j) / n = q at h3
  generalize (r0 + m) / n = p at h4
  rcases Nat.lt_trichotomy p q with hl | rfl | hl
  · have := Nat.mul_le_mul_left n (show p + 1 ≤ q from hl)
    rw [Nat.mul_add] at this
    omega
  · omega
  · have := Nat.mul_le_mul_left n (show q + 1 ≤ p from hl)
    rw [Nat.mul_add] at this
    omega
theorem ansLeft_next (zs : List Int) (n r0 j : Nat) : (fun k : Int => if k = ((r0 + j) % n : Nat) then none else ansLeft zs n r0 j k) = ansLeft zs n r0 (j + 1) := by
  funext k
  unfold ansLeft
  by_cases h1 : k = ((r0 + j) % n : Nat)
  · rw [if_pos h1, if_pos ⟨j, Nat.lt_succ_self _, h1⟩]
  · rw [if_neg h1]
    by_cases h2 : ∃ m, m < j ∧ k = ((r0 + m) % n : Nat)
    · rw [if_pos h2, if_pos (by obtain ⟨m, hm, e⟩ := h2; exact ⟨m, by omega, e⟩)]
    · rw [if_neg h2, if_neg]
      rintro ⟨m, hm, e⟩
      by_cases e2 : m = j
      · subst e2; exact h1 e
      · exact h2 ⟨m, by omega, e⟩
theorem asked_same {s : LogS} {k : Int} (h : s.ans k = none) : (s.asked k).ans = s.ans := by
  funext x
  show (if x = k then none else s.ans x) = s.ans x
  by_cases e : x = k
  · rw [if_pos e, e, h]
  · rw [if_neg e]
def ans2 (zs : List Int) (s : LogS) (i : Nat) : LogS := (s.taken false).filled i ⟨kdOf zs i, 0⟩
def ans3 (zs : List Int) (s : LogS) (i : Nat) : LogS := (ans2 zs s i).posted 0 (OutV.zero, -1)
def ans4 (zs : List Int) (s : LogS) (i : Nat) : LogS := (ans3 zs s i).replied (kdOf zs i) (100 + i)
theorem kdOf_in (zs : List Int) (i : Nat) : 1 ≤ kdOf zs i ∧ kdOf zs i ≤ 4 := by
  unfold kdOf
  omega
/-- One command, from being taken to being answered. -/
theorem ans_round {zs : List Int} {s : LogS} {i : Nat} (hI : LogI s) (h : AnsI zs s i) (hi : i < 20) :
    s.takes i false = true ∧ (s.taken false).fills i = true ∧ (ans2 zs s i).posts 0 = true ∧ (∃ l, (ans3 zs s i).collect = some l) ∧ (ans3 zs s i).look (ans3 zs s i).low = some ⟨kdOf zs i, 0⟩ ∧ AnsI zs (ans4 zs s i) (i + 1) := by
  obtain ⟨hcfg, htail, hlow, hcl, hcur, hans⟩ := h
  have hcmd : s.cmd i = none := hI.cmd i (by omega)
  have hc2 : (ans2 zs s i).cmd i = some ⟨kdOf zs i, 0⟩ := upd_same _ _ _
  have hlook : ∀ s' : LogS, s'.low = i → s'.cmd i = some ⟨kdOf zs i, 0⟩ → s'.look (i : Nat) = some ⟨kdOf zs i, 0⟩ := fun s' h1 h2 => by
    unfold LogS.look
    rw [if_pos (by omega), Int.toNat_natCast]
    exact h2
  have hl3 : (ans3 zs s i).low = i := hlow
  have hlk3 := hlook (ans3 zs s i) hl3 hc2
  have hcur2 : (ans2 zs s i).cursor 0 = i := by
    unfold LogS.cursor
    rw [if_pos ⟨Int.le_refl _, by show (0 : Int) < (s.cfg.sh : Nat); rw [hcfg]; decide⟩]
    exact hcur
  have hkd := kdOf_in zs i
  refine ⟨?_, ?_, ?_, ?_, by rw [hl3]; exact hlk3, ?_⟩
  · unfold LogS.takes
    rw [hcfg, htail, hlow, decide_eq_true (p := (i : Int) = i) rfl, decide_eq_true (p := (i : Int) ≠ c99.st) (by show (i : Int) ≠ 99; omega), decide_eq_true (p := (i : Int) - i < (c99.inb : Nat)) (by show (i : Int) - i < (2 : Nat); omega)]
    rfl
  · unfold LogS.fills
    refine Bool.and_eq_true_iff.2 ⟨decide_eq_true ?_, decide_eq_true ⟨?_, ?_, ?_⟩⟩
    · show (i : Int) < ((s.tail + 1 : Nat) : Int); omega
    · show ((s.low : Nat) : Int) ≤ i; omega
    · show (i : Int) < (s.low : Nat) + (s.cfg.inb : Nat); rw [hcfg, hlow]; show (i : Int) < i + (2 : Nat); omega
    · rw [Int.toNat_natCast]; exact hcmd
  · unfold LogS.posts
    rw [hcur2, hlook (ans2 zs s i) hlow hc2]
    refine Bool.and_eq_true_iff.2 ⟨decide_eq_true (by omega), rfl⟩
  · unfold LogS.collect
    rw [hl3, hlk3]
    simp only
    have : anyWaits (ans3 zs s i) (kdOf zs i) = false := aw_waits (by show s.cfg.sh = 1; rw [hcfg]; rfl) false (by
      unfold waitsB
      have hc3 : (ans3 zs s i).cur 0 = i + 1 := by
        show upd s.cur 0 (s.cur 0 + 1) 0 = _
        rw [upd_same, hcur]
      rw [hc3, hl3, decide_eq_false (p := (i : Int) + 1 ≤ i) (by omega), decide_eq_false (p := kdOf zs i = 5) (by omega)]
      simp)
    rw [this]
    exact ⟨_, rfl⟩
  · refine ⟨hcfg, ?_, ?_, ?_, ?_, ?_⟩
    · show s.tail + 1 = i + 1; omega
    · show s.low + 1 = i + 1; omega
    · show (s.closed || false) = false; rw [hcl]; rfl
    · show upd s.cur 0 (s.cur 0 + 1) 0 = _
      rw [upd_same, hcur]
      rfl
    · show LogS.answered (ans3 zs s i) (kdOf zs i) (100 + i) = _
      unfold LogS.answered
      have ha3 : (ans3 zs s i).ans = ansTo zs i := hans
      rw [ha3, hl3]
      funext k
      by_cases e : k = i
      · subst e
        unfold ansTo
        by_cases h1 : kdOf zs i = 1
        · rw [if_pos h1]
          rw [if_neg (by omega), if_neg (by rw [Int.toNat_natCast]; exact fun g => g.2.2 h1)]
        · rw [if_neg h1, if_pos rfl, if_pos ⟨by omega, by omega, by rw [Int.toNat_natCast]; exact h1⟩]
      · have : ansTo zs (i + 1) k = ansTo zs i k := by
          unfold ansTo
          by_cases h1 : 0 ≤ k ∧ k < (i : Int) ∧ kdOf zs k.toNat ≠ 1
          · rw [if_pos h1, if_pos ⟨h1.1, by have := h1.2.1; omega, h1.2.2⟩]
          · rw [if_neg h1, if_neg (fun g => h1 ⟨g.1, by have := g.2.1; omega, g.2.2⟩)]
        rw [this]
        split
        · rfl
        · exact if_neg e
end Go.Proofs.Ytibbnikfecilhaa
