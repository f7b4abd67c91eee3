/- Chapter 19: bits; what holds of a log that some workers leave. -/
import Derived.Test.YtibbnikfecilhaaLgH
namespace Go.Proofs.Ytibbnikfecilhaa
open Go.RowKit
set_option linter.unusedVariables false
set_option linter.unusedSimpArgs false

theorem wrap_small {n : Int} (h : -9223372036854775808 ≤ n ∧ n ≤ 9223372036854775807) : IntKind.i64.wrap n = n := IntWalk.i64_in _ h
theorem bits_and1 (y : Int) : bits BinOp.and IntKind.i64 y 1 = y % 2 := by
  unfold bits
  simp only
  have h1 : (BitVec.ofInt IntKind.i64.bits y &&& BitVec.ofInt IntKind.i64.bits 1).toNat = (y % 2).toNat := by
    rw [BitVec.toNat_and]
    have e1 : (BitVec.ofInt IntKind.i64.bits 1).toNat = 1 := by decide
    have e2 : (BitVec.ofInt IntKind.i64.bits y).toNat = (y % 18446744073709551616).toNat := by
      rw [BitVec.toNat_ofInt]
      rfl
    rw [e1, e2, Nat.and_one_is_mod]
    omega
  rw [h1, wrap_small (by omega)]
  omega
theorem or_bit (m a b i : Nat) (hi : i < 5) (h : m = a ||| b) : m / 2 ^ i % 2 = 1 ↔ a / 2 ^ i % 2 = 1 ∨ b / 2 ^ i % 2 = 1 := by
  have e : ∀ n : Nat, n / 2 ^ i % 2 = 1 ↔ n.testBit i = true := fun n => by rw [Nat.testBit_eq_decide_div_mod_eq]; simp
  rw [e, e, e, h, Nat.testBit_or, Bool.or_eq_true]
/-- Is a bit set? -/
def bitOf (x : Int) (i : Nat) : Bool := bits BinOp.and IntKind.i64 (x / 2 ^ i) 1 == 1
theorem bitOf_eq (x : Int) (i : Nat) : bitOf x i = decide (x / 2 ^ i % 2 = 1) := by
  unfold bitOf
  rw [bits_and1]
  rfl
theorem bitOf_or (x y : Int) (i : Nat) (hi : i < 5) : bitOf (bits BinOp.or IntKind.i64 x y) i = (bitOf x i || bitOf y i) := by
  rw [bitOf_eq, bitOf_eq, bitOf_eq, ← Bool.decide_or]
  refine decide_eq_decide.2 ?_
  obtain ⟨a, ha⟩ : ∃ a : Nat, (BitVec.ofInt 64 x).toNat = a := ⟨_, rfl⟩
  obtain ⟨b, hb⟩ : ∃ b : Nat, (BitVec.ofInt 64 y).toNat = b := ⟨_, rfl⟩
  have ha2 : (a : Int) = x % 18446744073709551616 := by
    rw [← ha, BitVec.toNat_ofInt]
    exact Int.toNat_of_nonneg (Int.emod_nonneg _ (by decide))
  have hb2 : (b : Int) = y % 18446744073709551616 := by
    rw [← hb, BitVec.toNat_ofInt]
    exact Int.toNat_of_nonneg (Int.emod_nonneg _ (by decide))
  obtain ⟨m, hm⟩ : ∃ m : Nat, m = a ||| b := ⟨_, rfl⟩
  have hm2 : m < 18446744073709551616 := by
    rw [hm, ← ha, ← hb, ← BitVec.toNat_or]
    exact (BitVec.ofInt 64 x ||| BitVec.ofInt 64 y).isLt
  have hor : bits BinOp.or IntKind.i64 x y = IntKind.i64.wrap (m : Nat) := by
    unfold bits
    simp only
    rw [hm, ← ha, ← hb, ← BitVec.toNat_or]
    rfl
  have hw : bits BinOp.or IntKind.i64 x y = m ∨ bits BinOp.or IntKind.i64 x y = (m : Int) - 18446744073709551616 := by
    rw [hor]
    unfold IntKind.wrap
    simp only
    have e : (2 : Int) ^ IntKind.i64.bits = 18446744073709551616 := by decide
    rw [e, show ((m : Nat) : Int) % 18446744073709551616 = m by omega]
    split
    · exact .inr rfl
    · exact .inl rfl
  have hk := or_bit m a b i hi hm
  generalize bits BinOp.or IntKind.i64 x y = z at hw
  have hc : i = 0 ∨ i = 1 ∨ i = 2 ∨ i = 3 ∨ i = 4 := by omega
  rcases hc with rfl | rfl | rfl | rfl | rfl <;> simp only [Nat.reducePow, Int.reducePow, Nat.pow_zero, Int.pow_zero] at hk ⊢ <;> omega
def cLv (n : Nat) : CfgV := ⟨n, 4, 1, 1, 1, 1, 99⟩
/-- Behind so many workers. -/
structure LvI (n : Nat) (ah bt : Nat → Bool) (s : LogS) (W : Nat) : Prop where
  cfg : s.cfg = cLv n
  tail : s.tail = 1
  low : s.low = 0
  cmd : s.cmd 0 = some ⟨4, 0⟩
  old : ∀ i, i < n → i < W → s.cur i = (if (bt i || ah i) = true then -1 else 1) ∧ (s.told i).2 = if ah i = true then -1 else (i : Int)
  new : ∀ i, i < n → W ≤ i → s.cur i = 0 ∧ s.out i 0 = none
def lv0 (n : Nat) : LogS := ((LogS.init (cLv n)).taken false).filled 0 ⟨4, 0⟩
theorem LvI.init (n : Nat) (ah bt : Nat → Bool) : LvI n ah bt (lv0 n) 0 := ⟨rfl, rfl, rfl, rfl, fun i _ h => absurd h (Nat.not_lt_zero _), fun i _ _ => ⟨rfl, rfl⟩⟩
theorem cursor_at {s : LogS} {n i : Nat} (hc : s.cfg.sh = n) (hi : i < n) : s.cursor i = s.cur i := by
  unfold LogS.cursor
  rw [if_pos ⟨by omega, by omega⟩, Int.toNat_natCast]
variable {n : Nat} {ah bt : Nat → Bool} {s : LogS} {W : Nat}
theorem LvI.sh (h : LvI n ah bt s W) : s.cfg.sh = n := by rw [h.cfg]; rfl
theorem LvI.look (h : LvI n ah bt s W) : s.look 0 = some ⟨4, 0⟩ := by
  unfold LogS.look
  rw [if_pos (by rw [h.low]; decide)]
  exact h.cmd
/-- A worker that is gone ahead of the command. -/
theorem LvI.early (h : LvI n ah bt s W) (hW : W < n) (ha : ah W = true) : s.leaves W = true ∧ (s.left W).leaves W = false ∧ LvI n ah bt (s.left W) (W + 1) := by
  have hc := cursor_at h.sh hW
  have h0 := (h.new W hW (Nat.le_refl _)).1
  have hc2 : (s.left W).cursor W = -1 := by
    rw [cursor_at (s := s.left W) (n := n) h.sh hW]
    show upd s.cur (W : Int).toNat (-1) W = -1
    rw [Int.toNat_natCast, upd_same]
  refine ⟨?_, ?_, h.cfg, h.tail, h.low, h.cmd, fun i hi hiW => ?_, fun i hi hiW => ?_⟩
  · unfold LogS.leaves
    rw [hc, h0]
    rfl
  · unfold LogS.leaves
    rw [hc2]
    rfl
  · show upd s.cur (W : Int).toNat (-1) i = _ ∧ ((s.out i s.low).getD (OutV.zero, -1)).2 = _
    rw [Int.toNat_natCast]
    by_cases e : i = W
    · subst e
      rw [upd_same, h.low, (h.new i hW (Nat.le_refl _)).2, ha, Bool.or_true, if_pos rfl, if_pos rfl]
      exact ⟨rfl, rfl⟩
    · rw [upd_other _ _ e]
      exact h.old i hi (by omega)
  · show upd s.cur (W : Int).toNat (-1) i = _ ∧ s.out i 0 = _
    rw [Int.toNat_natCast, upd_other _ _ (by omega)]
    exact h.new i hi (by omega)
/-- A worker that tells something, and stays. -/
theorem LvI.posts (h : LvI n ah bt s W) (hW : W < n) : s.posts W = true := by
  unfold LogS.posts
  rw [cursor_at h.sh hW, (h.new W hW (Nat.le_refl _)).1, h.look]
  rfl
theorem LvI.stays (h : LvI n ah bt s W) (hW : W < n) (ha : ah W = false) (hb : bt W = false) (x : OutV) : LvI n ah bt (s.posted W (x, W)) (W + 1) := by
  have h0 := (h.new W hW (Nat.le_refl _)).1
  refine ⟨h.cfg, h.tail, h.low, h.cmd, fun i hi hiW => ?_, fun i hi hiW => ?_⟩
  · show upd s.cur (W : Int).toNat (s.cur (W : Int).toNat + 1) i = _ ∧ ((upd s.out (W : Int).toNat (upd (s.out (W : Int).toNat) (s.cur (W : Int).toNat).toNat (some (x, (W : Int)))) i s.low).getD (OutV.zero, -1)).2 = _
    rw [Int.toNat_natCast, h0, h.low]
    by_cases e : i = W
    · subst e
      rw [upd_same, upd_same, ha, hb]
      exact ⟨rfl, rfl⟩
    · rw [upd_other _ _ e, upd_other _ _ e, ← h.low]
      exact h.old i hi (by omega)
  · show upd s.cur (W : Int).toNat (s.cur (W : Int).toNat + 1) i = _ ∧ upd s.out (W : Int).toNat (upd (s.out (W : Int).toNat) (s.cur (W : Int).toNat).toNat (some (x, (W : Int)))) i 0 = _
    rw [Int.toNat_natCast, upd_other _ _ (by omega), upd_other _ _ (by omega)]
    exact h.new i hi (by omega)
/-- One that tells something, and leaves. -/
theorem LvI.goes (h : LvI n ah bt s W) (hW : W < n) (ha : ah W = false) (hb : bt W = true) (x : OutV) : (s.posted W (x, W)).leaves W = true ∧ LvI n ah bt ((s.posted W (x, W)).left W) (W + 1) := by
  have h0 := (h.new W hW (Nat.le_refl _)).1
  have hc2 : (s.posted W (x, W)).cursor W = 1 := by
    rw [cursor_at (s := s.posted W (x, W)) (n := n) h.sh hW]
    show upd s.cur (W : Int).toNat (s.cur (W : Int).toNat + 1) W = 1
    rw [Int.toNat_natCast, upd_same, h0]
    rfl
  refine ⟨?_, h.cfg, h.tail, h.low, h.cmd, fun i hi hiW => ?_, fun i hi hiW => ?_⟩
  · unfold LogS.leaves
    rw [hc2]
    rfl
  · show upd (upd s.cur (W : Int).toNat (s.cur (W : Int).toNat + 1)) (W : Int).toNat (-1) i = _ ∧ ((upd s.out (W : Int).toNat (upd (s.out (W : Int).toNat) (s.cur (W : Int).toNat).toNat (some (x, (W : Int)))) i s.low).getD (OutV.zero, -1)).2 = _
    rw [Int.toNat_natCast, h0, h.low]
    by_cases e : i = W
    · subst e
      rw [upd_same, upd_same, ha, hb]
      exact ⟨rfl, rfl⟩
    · rw [upd_other _ _ e, upd_other _ _ e, upd_other _ _ e, ← h.low]
      exact h.old i hi (by omega)
  · show upd (upd s.cur (W : Int).toNat (s.cur (W : Int).toNat + 1)) (W : Int).toNat (-1) i = _ ∧ upd s.out (W : Int).toNat (upd (s.out (W : Int).toNat) (s.cur (W : Int).toNat).toNat (some (x, (W : Int)))) i 0 = _
    rw [Int.toNat_natCast, upd_other _ _ (by omega), upd_other _ _ (by omega), upd_other _ _ (by omega)]
    exact h.new i hi (by omega)
/-- All that was told, when all are behind the command. -/
theorem lv_collect (hc : s.cfg.sh = n) (hl : s.look s.low = some ⟨4, 0⟩) (hcur : ∀ i, i < n → s.cur i = -1 ∨ (s.low : Int) < s.cur i) : s.collect = some ((List.range n).map s.told) := by
  unfold LogS.collect
  rw [hl]
  simp only
  have : anyWaits s 4 = false := by
    unfold anyWaits
    refine decide_eq_false ?_
    rintro ⟨i, hi, hw⟩
    unfold waitsB at hw
    rcases hcur i (by omega) with h | h
    · rw [h] at hw; simp at hw
    · rw [decide_eq_false (p := s.cur i ≤ s.low) (by omega)] at hw
      simp at hw
  rw [this, hc]
  rfl
/-- The second time round: the first of them have been asked to leave, once more. -/
structure LvJ (n : Nat) (ah bt : Nat → Bool) (s : LogS) (l : List (OutV × Int)) (W : Nat) : Prop where
  cfg : s.cfg = cLv n
  low : s.low = 0
  look : s.look 0 = some ⟨4, 0⟩
  told : l = (List.range n).map s.told
  val : ∀ i, i < n → (s.told i).2 = if ah i = true then -1 else (i : Int)
  old : ∀ i, i < n → i < W → s.cur i = -1
  new : ∀ i, i < n → W ≤ i → s.cur i = if (bt i || ah i) = true then -1 else 1
theorem LvI.again (h : LvI n ah bt s n) : s.collect = some ((List.range n).map s.told) ∧ LvJ n ah bt s ((List.range n).map s.told) 0 :=
  ⟨lv_collect h.sh (by rw [h.low]; exact h.look) (fun i hi => by
    rw [(h.old i hi hi).1, h.low]
    split
    · exact .inl rfl
    · exact .inr (by decide)), h.cfg, h.low, h.look, rfl, fun i hi => (h.old i hi hi).2, fun i _ hi => absurd hi (Nat.not_lt_zero _), fun i hi _ => (h.old i hi hi).1⟩
theorem LvJ.next {l : List (OutV × Int)} (h : LvJ n ah bt s l W) (hW : W < n) : s.cursor W = (if (bt W || ah W) = true then -1 else 1) ∧ s.leaves W = !(bt W || ah W) ∧ LvJ n ah bt (if s.leaves W = true then s.left W else s) l (W + 1) := by
  have hsh : s.cfg.sh = n := by rw [h.cfg]; rfl
  have hc := (cursor_at hsh hW).trans (h.new W hW (Nat.le_refl _))
  have hl : s.leaves W = !(bt W || ah W) := by
    unfold LogS.leaves
    rw [hc]
    cases (bt W || ah W) <;> rfl
  refine ⟨hc, hl, ?_⟩
  rw [hl]
  cases hg : (bt W || ah W)
  · refine ⟨h.cfg, h.low, h.look, h.told, h.val, fun i hi hiW => ?_, fun i hi hiW => ?_⟩
    · show upd s.cur (W : Int).toNat (-1) i = _
      rw [Int.toNat_natCast]
      by_cases e : i = W
      · subst e; rw [upd_same]
      · rw [upd_other _ _ e]; exact h.old i hi (by omega)
    · show upd s.cur (W : Int).toNat (-1) i = _
      rw [Int.toNat_natCast, upd_other _ _ (by omega)]
      exact h.new i hi (by omega)
  · refine ⟨h.cfg, h.low, h.look, h.told, h.val, fun i hi hiW => ?_, fun i hi hiW => h.new i hi (by omega)⟩
    by_cases e : i = W
    · subst e
      show s.cur i = -1
      rw [h.new i hi (Nat.le_refl _), hg]
      rfl
    · exact h.old i hi (by omega)
theorem LvJ.done {l : List (OutV × Int)} (h : LvJ n ah bt s l n) : ∃ l', s.collect = some l' :=
  ⟨_, lv_collect (by rw [h.cfg]; rfl) (by rw [h.low]; exact h.look) (fun i hi => .inl (h.old i hi hi))⟩
end Go.Proofs.Ytibbnikfecilhaa
