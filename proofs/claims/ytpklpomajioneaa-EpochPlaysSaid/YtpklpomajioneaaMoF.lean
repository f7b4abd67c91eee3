/- Chapter 12: what the document's epochs do. -/
import Derived.Test.YtpklpomajioneaaMo
namespace Go.Proofs.Ytpklpomajioneaa
open Go.RowKit
set_option linter.unusedVariables false
set_option linter.unusedSimpArgs false

def inR (n : Nat) (a : Int) : Bool := decide (0 ≤ a ∧ a < n)
def pinB (n : Nat) (s : EpS) (a : Int) : Bool := inR n a && s.pin a.toNat == -1
def pinS (n : Nat) (s : EpS) (a : Int) : EpS := if pinB n s a then { s with pin := upd s.pin a.toNat s.now } else s
def unpinB (n : Nat) (s : EpS) (a : Int) : Bool := inR n a && s.pin a.toNat != -1
def unpinS (n : Nat) (s : EpS) (a : Int) : EpS := if unpinB n s a then { s with pin := upd s.pin a.toNat (-1) } else s
def pinnedI (n : Nat) (s : EpS) (a : Int) : Int := if unpinB n s a then s.pin a.toNat else 0
def limboI (n : Nat) (s : EpS) (a : Int) : Nat := if inR n a then (s.lim a.toNat).length else 0
def PinOk (n : Nat) (s : EpS) : Prop := ∀ i, s.pin i = -1 ∨ 0 ≤ s.pin i ∧ i < n
theorem in_yes {n k : Nat} (h : k < n) : inR n (k : Int) = true := decide_eq_true (by omega)
theorem in_no {n : Nat} {a : Int} (h : ¬ (0 ≤ a ∧ a < n)) : inR n a = false := decide_eq_false h
theorem pinB_no {n : Nat} {s : EpS} {a : Int} (h : ¬ (0 ≤ a ∧ a < n)) : pinB n s a = false := by rw [pinB, in_no h]; rfl
theorem unpinB_no {n : Nat} {s : EpS} {a : Int} (h : ¬ (0 ≤ a ∧ a < n)) : unpinB n s a = false := by rw [unpinB, in_no h]; rfl
theorem pinB_at {n k : Nat} {s : EpS} (h : k < n) : pinB n s (k : Int) = (s.pin k == -1) := by rw [pinB, in_yes h, Bool.true_and, Int.toNat_natCast]
theorem unpinB_at {n k : Nat} {s : EpS} (h : k < n) : unpinB n s (k : Int) = (s.pin k != -1) := by rw [unpinB, in_yes h, Bool.true_and, Int.toNat_natCast]
theorem in_cases (n : Nat) (a : Int) : (∃ k : Nat, k < n ∧ a = k) ∨ ¬ (0 ≤ a ∧ a < n) := by
  by_cases h : 0 ≤ a ∧ a < n
  · exact .inl ⟨a.toNat, by omega, by omega⟩
  · exact .inr h

set_option maxHeartbeats 1000000 in
theorem mo_pin {w : World} {lo b R n c : Nat} {s : EpS} {mv : Nat → Value} (h : MoAt w lo b R n c s mv) (hp : PinOk n s) (a : Int) :
    Calls Try.prog 22 #[.pointer (some ⟨b, 0, none⟩), .int .i64 a] w fun e w' => e = .returned (.bool (pinB n s a)) ∧ MoAt w' lo b R n c (pinS n s a) mv ∧ Only (MoOwn b R n mv) w w' := by
  have H := Lib.hid h
  clear h
  rcases in_cases n a with ⟨k, hk, rfl⟩ | hbad
  · have c0 := H.out.c0
    have c1 := H.out.c1
    have cp := H.out.cp hk
    have fr := H.out.fr (k * 2)
    have ik : (k : Int) < n := by omega
    by_cases hm : s.pin k = -1
    · have hB : pinB n s (k : Int) = true := by rw [pinB_at hk, hm]; rfl
      rw [hm] at cp
      have HM := Lib.hid hm
      clear hm
      have hS : pinS n s (k : Int) = { s with pin := upd s.pin k s.now } := by rw [pinS, if_pos hB, Int.toNat_natCast]
      rw [hB, hS]
      go_enter Try.func22, Try.ntmps22
      go_wp2_with fail
      refine (mo_is H.out k true (decide_in hk)).mono ?_
      rintro e w' ⟨rfl, rfl⟩
      go_wp2_with fail
      go_still_tail 9, (by kernel_rfl)
      change wpList _ _ _ _ _ w.drew
      have cp2 : w.drew.cell? ⟨R, k * 2, none⟩ = some (.int .i64 (-1)) := cp
      have fr2 : w.drew.frozen? ⟨R, k * 2, none⟩ = false := fr
      have H2 := Lib.hid (H.out.below0 (bl_drew (Below.refl _ _)))
      have ho := (Only.refl (MoOwn b R n mv) w).drew
      generalize w.drew = w2 at *
      go_wp2
      go_ret
      exact ⟨rfl, H2.out.set_pin hk _, ho.setCell _ _ (.inl (.inr (.inl rfl)))⟩
    · have hB : pinB n s (k : Int) = false := by rw [pinB_at hk]; simpa using hm
      have hge : 0 ≤ s.pin k := by rcases hp k with h | h <;> omega
      have hS : pinS n s (k : Int) = s := by rw [pinS, if_neg (by rw [hB]; decide)]
      rw [hB, hS]
      go_enter Try.func22, Try.ntmps22
      go_wp2_with fail
      refine (mo_is H.out k true (decide_in hk)).mono ?_
      rintro e w' ⟨rfl, rfl⟩
      go_wp2_with fail
      go_ret
      exact ⟨rfl, H.out, Only.refl _ _⟩
  · have hS : pinS n s a = s := by rw [pinS, if_neg (by rw [pinB_no hbad]; decide)]
    rw [pinB_no hbad, hS]
    go_enter Try.func22, Try.ntmps22
    go_wp2_with fail
    refine (mo_is H.out a false (decide_out hbad)).mono ?_
    rintro e w' ⟨rfl, rfl⟩
    go_wp2_with fail
    go_ret
    exact ⟨rfl, H.out, Only.refl _ _⟩
set_option maxHeartbeats 1000000 in
theorem mo_unpin {w : World} {lo b R n c : Nat} {s : EpS} {mv : Nat → Value} (h : MoAt w lo b R n c s mv) (hp : PinOk n s) (a : Int) :
    Calls Try.prog 23 #[.pointer (some ⟨b, 0, none⟩), .int .i64 a] w fun e w' => e = .returned (.bool (unpinB n s a)) ∧ MoAt w' lo b R n c (unpinS n s a) mv ∧ Only (MoOwn b R n mv) w w' := by
  have H := Lib.hid h
  clear h
  rcases in_cases n a with ⟨k, hk, rfl⟩ | hbad
  · have c0 := H.out.c0
    have c1 := H.out.c1
    have cp := H.out.cp hk
    have fr := H.out.fr (k * 2)
    have ik : (k : Int) < n := by omega
    by_cases hm : s.pin k = -1
    · have hB : unpinB n s (k : Int) = false := by rw [unpinB_at hk, hm]; rfl
      rw [hm] at cp
      clear hm
      have hS : unpinS n s (k : Int) = s := by rw [unpinS, if_neg (by rw [hB]; decide)]
      rw [hB, hS]
      go_enter Try.func23, Try.ntmps23
      go_wp2_with fail
      refine (mo_is H.out k true (decide_in hk)).mono ?_
      rintro e w' ⟨rfl, rfl⟩
      go_wp2_with fail
      go_ret
      exact ⟨rfl, H.out, Only.refl _ _⟩
    · have hB : unpinB n s (k : Int) = true := by rw [unpinB_at hk]; simpa using hm
      have hge : 0 ≤ s.pin k := by rcases hp k with h | h <;> omega
      have hS : unpinS n s (k : Int) = { s with pin := upd s.pin k (-1) } := by rw [unpinS, if_pos hB, Int.toNat_natCast]
      rw [hB, hS]
      go_enter Try.func23, Try.ntmps23
      go_wp2_with fail
      refine (mo_is H.out k true (decide_in hk)).mono ?_
      rintro e w' ⟨rfl, rfl⟩
      go_wp2_with fail
      go_ret
      exact ⟨rfl, H.out.set_pin hk _, (Only.refl _ _).setCell _ _ (.inl (.inr (.inl rfl)))⟩
  · have hS : unpinS n s a = s := by rw [unpinS, if_neg (by rw [unpinB_no hbad]; decide)]
    rw [unpinB_no hbad, hS]
    go_enter Try.func23, Try.ntmps23
    go_wp2_with fail
    refine (mo_is H.out a false (decide_out hbad)).mono ?_
    rintro e w' ⟨rfl, rfl⟩
    go_wp2_with fail
    go_ret
    exact ⟨rfl, H.out, Only.refl _ _⟩
set_option maxHeartbeats 1000000 in
theorem mo_pinned {w : World} {lo b R n c : Nat} {s : EpS} {mv : Nat → Value} (h : MoAt w lo b R n c s mv) (hp : PinOk n s) (a : Int) :
    Calls Try.prog 27 #[.pointer (some ⟨b, 0, none⟩), .int .i64 a] w fun e w' => e = .returned (.tuple #[.int .i64 (pinnedI n s a), .bool (unpinB n s a)]) ∧ w = w' := by
  have H := Lib.hid h
  clear h
  rcases in_cases n a with ⟨k, hk, rfl⟩ | hbad
  · have c0 := H.out.c0
    have c1 := H.out.c1
    have cp := H.out.cp hk
    have ik : (k : Int) < n := by omega
    by_cases hm : s.pin k = -1
    · have hB : unpinB n s (k : Int) = false := by rw [unpinB_at hk, hm]; rfl
      rw [hm] at cp
      clear hm
      have hS : pinnedI n s (k : Int) = 0 := by rw [pinnedI, if_neg (by rw [hB]; decide)]
      rw [hB, hS]
      go_enter Try.func27, Try.ntmps27
      go_wp2_with fail
      refine (mo_is H.out k true (decide_in hk)).mono ?_
      rintro e w' ⟨rfl, rfl⟩
      go_wp2_with fail
      go_ret2
      exact ⟨rfl, rfl⟩
    · have hB : unpinB n s (k : Int) = true := by rw [unpinB_at hk]; simpa using hm
      have hge : 0 ≤ s.pin k := by rcases hp k with h | h <;> omega
      have hS : pinnedI n s (k : Int) = s.pin k := by rw [pinnedI, if_pos hB, Int.toNat_natCast]
      rw [hB, hS]
      go_enter Try.func27, Try.ntmps27
      go_wp2_with fail
      refine (mo_is H.out k true (decide_in hk)).mono ?_
      rintro e w' ⟨rfl, rfl⟩
      go_wp2_with fail
      go_ret2
      exact ⟨rfl, rfl⟩
  · have hS : pinnedI n s a = 0 := by rw [pinnedI, if_neg (by rw [unpinB_no hbad]; decide)]
    rw [unpinB_no hbad, hS]
    go_enter Try.func27, Try.ntmps27
    go_wp2_with fail
    refine (mo_is H.out a false (decide_out hbad)).mono ?_
    rintro e w' ⟨rfl, rfl⟩
    go_wp2_with fail
    go_ret2
    exact ⟨rfl, rfl⟩
set_option maxHeartbeats 1000000 in
theorem mo_limbo {w : World} {lo b R n c : Nat} {s : EpS} {mv : Nat → Value} (h : MoAt w lo b R n c s mv) (a : Int) :
    Calls Try.prog 28 #[.pointer (some ⟨b, 0, none⟩), .int .i64 a] w fun e w' => e = .returned (.int .i64 (limboI n s a)) ∧ w = w' := by
  have H := Lib.hid h
  clear h
  rcases in_cases n a with ⟨k, hk, rfl⟩ | hbad
  · have c1 := H.out.c1
    have cl := H.out.cl hk
    obtain ⟨A, c', hA⟩ := own_form (H.out.row k hk)
    rw [hA] at cl
    have ik : (k : Int) < n := by omega
    have hS : limboI n s (k : Int) = (s.lim k).length := by rw [limboI, if_pos (in_yes hk), Int.toNat_natCast]
    rw [hS]
    clear hA
    go_enter Try.func28, Try.ntmps28
    go_wp2_with fail
    refine (mo_is H.out k true (decide_in hk)).mono ?_
    rintro e w' ⟨rfl, rfl⟩
    go_wp2_with fail
    go_ret
    exact ⟨rfl, rfl⟩
  · have hS : limboI n s a = 0 := by rw [limboI, if_neg (by rw [in_no hbad]; decide)]
    rw [hS]
    go_enter Try.func28, Try.ntmps28
    go_wp2_with fail
    refine (mo_is H.out a false (decide_out hbad)).mono ?_
    rintro e w' ⟨rfl, rfl⟩
    go_wp2_with fail
    go_ret
    exact ⟨rfl, rfl⟩
end Go.Proofs.Ytpklpomajioneaa
