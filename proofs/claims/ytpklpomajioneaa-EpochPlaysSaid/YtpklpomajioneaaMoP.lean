/- Chapter 12: both epochs side by side. -/
import Derived.Test.YtpklpomajioneaaMoR
import Derived.Test.YtpklpomajioneaaSafe
namespace Go.Proofs.Ytpklpomajioneaa
open Go.RowKit
set_option linter.unusedVariables false
set_option linter.unusedSimpArgs false

/-- The epochs and the document's epochs in one memory. -/
structure PW (w W : World) (b bm R n c : Nat) (se sm : EpS) (lv mv : Nat → Value) : Prop where
  ep : EpAt W w.heap.size b n se lv
  mo : MoAt W w.heap.size bm R n c sm mv
  bel : Below w.heap.size w W
theorem MoAt.own_ty {w : World} {lo b R n c : Nat} {s : EpS} {mv : Nat → Value} (h : MoAt w lo b R n c s mv) {k : Nat} (hk : MoOwn b R n mv k) : ∃ cs t fr, w.heap[k]? = some (.cells cs t fr) ∧ (t = 57 ∨ t = 70 ∨ t = 72) := by
  rcases hk with rfl | rfl | ⟨i, hi, hk⟩
  · exact ⟨_, _, _, h.eb, .inl rfl⟩
  · obtain ⟨cur, hc, _⟩ := h.rb
    exact ⟨_, _, _, hc, .inr (.inl rfl)⟩
  · obtain ⟨cs, hc⟩ := own_type' (h.row i hi) hk
    exact ⟨_, _, _, hc, .inr (.inr rfl)⟩
theorem PW.apart {w W : World} {b bm R n c : Nat} {se sm : EpS} {lv mv : Nat → Value} (h : PW w W b bm R n c se sm lv mv) {k : Nat} (hm : MoOwn bm R n mv k) : ¬ EpOwn b lv k := by
  obtain ⟨cs, t, fr, hk, ht⟩ := h.mo.own_ty hm
  refine h.ep.not_own hk ?_ ?_
  · rcases ht with rfl | rfl | rfl <;> decide
  · rcases ht with rfl | rfl | rfl <;> decide
theorem PW.below {w W W' : World} {b bm R n c : Nat} {se sm : EpS} {lv mv : Nat → Value} (h : PW w W b bm R n c se sm lv mv) (hb : Below W.heap.size W W') : PW w W' b bm R n c se sm lv mv :=
  ⟨h.ep.below0 hb, h.mo.below0 hb, bl_then h.bel hb⟩
theorem PW.stepE {w W W' : World} {b bm R n c : Nat} {se sm se' : EpS} {lv mv lv' : Nat → Value} (h : PW w W b bm R n c se sm lv mv) (he : EpAt W' w.heap.size b n se' lv') (ho : Only (EpOwn b lv) W W') : PW w W' b bm R n c se' sm lv' mv :=
  ⟨he, h.mo.kept ho (fun k hk hm => h.apart hm hk), bl_only h.bel ho (fun k hk => h.ep.own_lo hk)⟩
theorem PW.stepM {w W W' : World} {b bm R n c : Nat} {se sm sm' : EpS} {lv mv mv' : Nat → Value} (h : PW w W b bm R n c se sm lv mv) (hm : MoAt W' w.heap.size bm R n c sm' mv') (ho : Only (MoOwn bm R n mv) W W') : PW w W' b bm R n c se sm' lv mv' :=
  ⟨h.ep.kept ho (fun k hk he => h.apart hk he), hm, bl_only h.bel ho (fun k hk => h.mo.own_lo hk)⟩
def retB (n : Nat) (a : Int) : Bool := inR n a
def retS (n : Nat) (s : EpS) (a : Int) (sl gn : Int) : EpS := if inR n a = true then { s with lim := upd s.lim a.toNat (s.lim a.toNat ++ [⟨sl, gn, s.now⟩]) } else s
def ripeS (n : Nat) (s : EpS) (a : Int) : EpS := if inR n a = true then { s with lim := upd s.lim a.toNat (keptOf s.now (s.lim a.toNat)) } else s
def ripeT (n : Nat) (s : EpS) (a : Int) : List RefV := if inR n a = true then toldOf s.now (s.lim a.toNat) else []
theorem retS_yes {n k : Nat} (s : EpS) (sl gn : Int) (h : k < n) : retS n s (k : Int) sl gn = { s with lim := upd s.lim k (s.lim k ++ [⟨sl, gn, s.now⟩]) } := by rw [retS, if_pos (in_yes h), Int.toNat_natCast]
theorem ripeS_yes {n k : Nat} (s : EpS) (h : k < n) : ripeS n s (k : Int) = { s with lim := upd s.lim k (keptOf s.now (s.lim k)) } := by rw [ripeS, if_pos (in_yes h), Int.toNat_natCast]
theorem ripeT_yes {n k : Nat} (s : EpS) (h : k < n) : ripeT n s (k : Int) = toldOf s.now (s.lim k) := by rw [ripeT, if_pos (in_yes h), Int.toNat_natCast]
theorem retS_no {n : Nat} {a : Int} (s : EpS) (sl gn : Int) (h : ¬ (0 ≤ a ∧ a < n)) : retS n s a sl gn = s := by rw [retS, if_neg (by rw [in_no h]; decide)]
theorem ripeS_no {n : Nat} {a : Int} (s : EpS) (h : ¬ (0 ≤ a ∧ a < n)) : ripeS n s a = s := by rw [ripeS, if_neg (by rw [in_no h]; decide)]
theorem ripeT_no {n : Nat} {a : Int} (s : EpS) (h : ¬ (0 ≤ a ∧ a < n)) : ripeT n s a = [] := by rw [ripeT, if_neg (by rw [in_no h]; decide)]
theorem pinS_no {n : Nat} {a : Int} (s : EpS) (h : pinB n s a = false) : pinS n s a = s := by rw [pinS, if_neg (by rw [h]; decide)]
theorem unpinS_no {n : Nat} {a : Int} (s : EpS) (h : unpinB n s a = false) : unpinS n s a = s := by rw [unpinS, if_neg (by rw [h]; decide)]
theorem blocked_eq {n : Nat} {s : EpS} (h : PinOk n s) (hn : n ≤ 16) : s.blocked = moBlocked n s := by
  unfold EpS.blocked moBlocked
  rw [Bool.eq_iff_iff, List.any_eq_true, List.any_eq_true]
  constructor
  · rintro ⟨i, _, hi⟩
    refine ⟨i, List.mem_range.2 ?_, hi⟩
    rcases h i with h1 | h1
    · rw [h1] at hi; simp at hi
    · exact h1.2
  · rintro ⟨i, hi, h2⟩
    exact ⟨i, List.mem_range.2 (by have := List.mem_range.1 hi; omega), h2⟩
variable {w W : World} {b bm R n c : Nat} {se sm : EpS} {lv mv : Nat → Value}
theorem e_pin (h : PW w W b bm R n c se sm lv mv) (a : Int) :
    Calls Try.prog 12 #[.pointer (some ⟨b, 0, none⟩), .int .i64 a] W fun e w' => e = .returned (.bool (pinB n se a)) ∧ PW w w' b bm R n c (pinS n se a) sm lv mv := by
  rcases in_cases n a with ⟨k, hk, rfl⟩ | hbad
  · by_cases hp : se.pin k = -1
    · have hB : pinB n se (k : Int) = true := by rw [pinB_at hk, hp]; rfl
      rw [hB, pinS, if_pos hB, Int.toNat_natCast]
      refine (pin_yes h.ep hk hp).mono ?_
      rintro e w' ⟨rfl, he, ho⟩
      exact ⟨rfl, h.stepE he (ho.mono fun k hk => .inl hk)⟩
    · have hB : pinB n se (k : Int) = false := by rw [pinB_at hk]; simpa using hp
      rw [hB, pinS_no _ hB]
      refine (pin_no h.ep hk hp).mono ?_
      rintro e w' ⟨rfl, rfl⟩
      exact ⟨rfl, h⟩
  · rw [pinB_no hbad, pinS_no _ (pinB_no hbad)]
    refine (pin_bad h.ep a hbad).mono ?_
    rintro e w' ⟨rfl, hb⟩
    exact ⟨rfl, h.below hb⟩
theorem m_pin (h : PW w W b bm R n c se sm lv mv) (hp : PinOk n sm) (a : Int) :
    Calls Try.prog 22 #[.pointer (some ⟨bm, 0, none⟩), .int .i64 a] W fun e w' => e = .returned (.bool (pinB n sm a)) ∧ PW w w' b bm R n c se (pinS n sm a) lv mv :=
  (mo_pin h.mo hp a).mono fun e w' ⟨he, hm, ho⟩ => ⟨he, h.stepM hm ho⟩
theorem e_unpin (h : PW w W b bm R n c se sm lv mv) (a : Int) :
    Calls Try.prog 13 #[.pointer (some ⟨b, 0, none⟩), .int .i64 a] W fun e w' => e = .returned (.bool (unpinB n se a)) ∧ PW w w' b bm R n c (unpinS n se a) sm lv mv := by
  rcases in_cases n a with ⟨k, hk, rfl⟩ | hbad
  · by_cases hp : se.pin k = -1
    · have hB : unpinB n se (k : Int) = false := by rw [unpinB_at hk, hp]; rfl
      rw [hB, unpinS_no _ hB]
      refine (unpin_no h.ep hk hp).mono ?_
      rintro e w' ⟨rfl, rfl⟩
      exact ⟨rfl, h⟩
    · have hB : unpinB n se (k : Int) = true := by rw [unpinB_at hk]; simpa using hp
      rw [hB, unpinS, if_pos hB, Int.toNat_natCast]
      refine (unpin_yes h.ep hk hp).mono ?_
      rintro e w' ⟨rfl, he, ho⟩
      exact ⟨rfl, h.stepE he (ho.mono fun k hk => .inl hk)⟩
  · rw [unpinB_no hbad, unpinS_no _ (unpinB_no hbad)]
    refine (unpin_bad h.ep a hbad).mono ?_
    rintro e w' ⟨rfl, hb⟩
    exact ⟨rfl, h.below hb⟩
theorem m_unpin (h : PW w W b bm R n c se sm lv mv) (hp : PinOk n sm) (a : Int) :
    Calls Try.prog 23 #[.pointer (some ⟨bm, 0, none⟩), .int .i64 a] W fun e w' => e = .returned (.bool (unpinB n sm a)) ∧ PW w w' b bm R n c se (unpinS n sm a) lv mv :=
  (mo_unpin h.mo hp a).mono fun e w' ⟨he, hm, ho⟩ => ⟨he, h.stepM hm ho⟩
theorem e_retire (h : PW w W b bm R n c se sm lv mv) (a sl gn : Int) (hl : ∀ i, (se.lim i).length ≤ 500) :
    Calls Try.prog 14 #[.pointer (some ⟨b, 0, none⟩), .int .i64 a, .agg #[.int .i64 sl, .int .i64 gn]] W fun e w' => e = .returned (.bool (retB n a)) ∧ Only (EpOwn b lv) W w' ∧ ∃ lv', PW w w' b bm R n c (retS n se a sl gn) sm lv' mv := by
  rcases in_cases n a with ⟨k, hk, rfl⟩ | hbad
  · rw [retB, in_yes hk, retS_yes _ _ _ hk]
    refine (retire_any h.ep hk sl gn h.bel.size (by have := hl k; omega)).mono ?_
    rintro e w' ⟨rfl, v, he, ho, _⟩
    exact ⟨rfl, ho, _, h.stepE he ho⟩
  · rw [retB, in_no hbad, retS_no _ _ _ hbad]
    refine (retire_bad h.ep a sl gn hbad).mono ?_
    rintro e w' ⟨rfl, hb⟩
    exact ⟨rfl, Only.of_below hb, _, h.below hb⟩
theorem m_retire (h : PW w W b bm R n c se sm lv mv) (a sl gn : Int) (hl : ∀ i, (sm.lim i).length ≤ 500) :
    Calls Try.prog 24 #[.pointer (some ⟨bm, 0, none⟩), .int .i64 a, .agg #[.int .i64 sl, .int .i64 gn]] W fun e w' => e = .returned (.bool (retB n a)) ∧ ∃ mv', PW w w' b bm R n c se (retS n sm a sl gn) lv mv' := by
  rcases in_cases n a with ⟨k, hk, rfl⟩ | hbad
  · rw [retB, in_yes hk, retS_yes _ _ _ hk]
    refine (mo_retire h.mo hk sl gn h.bel.size (by have := hl k; omega)).mono ?_
    rintro e w' ⟨rfl, ⟨v, he⟩, ho⟩
    exact ⟨rfl, _, h.stepM he ho⟩
  · rw [retB, in_no hbad, retS_no _ _ _ hbad]
    refine (mo_retire_bad h.mo a hbad sl gn).mono ?_
    rintro e w' ⟨rfl, hb⟩
    exact ⟨rfl, _, h.below hb⟩
theorem e_advance (h : PW w W b bm R n c se sm lv mv) (hp : PinOk n se) (hn : se.now ≤ 1000000) :
    Calls Try.prog 16 #[.pointer (some ⟨b, 0, none⟩)] W fun e w' => e = .returned (.bool (!moBlocked n se)) ∧ PW w w' b bm R n c (advS n se) sm lv mv := by
  have hB := blocked_eq hp h.ep.n16
  cases hb : moBlocked n se
  · rw [advS_no hb]
    refine (advance_yes h.ep hn (hB.trans hb)).mono ?_
    rintro e w' ⟨rfl, he, ho⟩
    exact ⟨rfl, h.stepE he (ho.mono fun k hk => .inl hk)⟩
  · rw [advS_yes hb]
    refine (advance_no h.ep hn (hB.trans hb)).mono ?_
    rintro e w' ⟨rfl, hb⟩
    exact ⟨rfl, h.below hb⟩
theorem m_advance (h : PW w W b bm R n c se sm lv mv) (hp : PinOk n sm) (hn : sm.now ≤ 1000000) :
    Calls Try.prog 26 #[.pointer (some ⟨bm, 0, none⟩)] W fun e w' => e = .returned (.bool (!moBlocked n sm)) ∧ PW w w' b bm R n c se (advS n sm) lv mv :=
  (mo_advance h.mo hp hn).mono fun e w' ⟨he, hm, ho⟩ => ⟨he, h.stepM hm ho⟩
theorem e_pinned (h : PW w W b bm R n c se sm lv mv) (a : Int) :
    Calls Try.prog 19 #[.pointer (some ⟨b, 0, none⟩), .int .i64 a] W fun e w' => e = .returned (.tuple #[.int .i64 (pinnedI n se a), .bool (unpinB n se a)]) ∧ PW w w' b bm R n c se sm lv mv := by
  rcases in_cases n a with ⟨k, hk, rfl⟩ | hbad
  · by_cases hp : se.pin k = -1
    · have hB : unpinB n se (k : Int) = false := by rw [unpinB_at hk, hp]; rfl
      rw [pinnedI, hB, if_neg (by decide)]
      refine (pinned_no h.ep hk hp).mono ?_
      rintro e w' ⟨rfl, rfl⟩
      exact ⟨rfl, h⟩
    · have hB : unpinB n se (k : Int) = true := by rw [unpinB_at hk]; simpa using hp
      rw [pinnedI, hB, if_pos rfl, Int.toNat_natCast]
      refine (pinned_yes h.ep hk hp).mono ?_
      rintro e w' ⟨rfl, rfl⟩
      exact ⟨rfl, h⟩
  · rw [pinnedI, unpinB_no hbad, if_neg (by decide)]
    refine (pinned_bad h.ep a hbad).mono ?_
    rintro e w' ⟨rfl, hb⟩
    exact ⟨rfl, h.below hb⟩
theorem m_pinned (h : PW w W b bm R n c se sm lv mv) (hp : PinOk n sm) (a : Int) :
    Calls Try.prog 27 #[.pointer (some ⟨bm, 0, none⟩), .int .i64 a] W fun e w' => e = .returned (.tuple #[.int .i64 (pinnedI n sm a), .bool (unpinB n sm a)]) ∧ PW w w' b bm R n c se sm lv mv :=
  (mo_pinned h.mo hp a).mono fun e w' ⟨he, hm⟩ => ⟨he, by subst hm; exact h⟩
theorem limbo_off {w : World} {lo b n : Nat} {s : EpS} {lv : Nat → Value} (h : EpAt w lo b n s lv) (a : Int) (ha : ¬ (0 ≤ a ∧ a < n)) : Calls Try.prog 18 #[.pointer (some ⟨b, 0, none⟩), .int .i64 a] w fun e w' => e = .returned (.int .i64 0) ∧ w = w' := by
  have H := Lib.hid h
  clear h
  go_enter Try.func18, Try.ntmps18
  go_wp2_with fail
  refine (is_any H.out a false (decide_out ha)).mono ?_
  rintro e w' ⟨rfl, rfl⟩
  go_wp2_with fail
  go_ret
  exact ⟨rfl, rfl⟩
theorem e_limbo (h : PW w W b bm R n c se sm lv mv) (a : Int) (q : Nat) :
    Calls Try.prog 18 #[.pointer (some ⟨b, 0, none⟩), .int .i64 a] (W.drewN q) fun e w' => e = .returned (.int .i64 (limboI n se a)) ∧ w' = W.drewN q := by
  rcases in_cases n a with ⟨k, hk, rfl⟩ | hbad
  · rw [limboI, if_pos (in_yes hk), Int.toNat_natCast]
    refine (limbo_any (h.ep.drewN q) hk).mono ?_
    rintro e w' ⟨rfl, rfl⟩
    exact ⟨rfl, rfl⟩
  · rw [limboI, if_neg (by rw [in_no hbad]; decide)]
    refine (limbo_off (h.ep.drewN q) a hbad).mono ?_
    rintro e w' ⟨rfl, rfl⟩
    exact ⟨rfl, rfl⟩
theorem m_limbo (h : PW w W b bm R n c se sm lv mv) (a : Int) (q : Nat) :
    Calls Try.prog 28 #[.pointer (some ⟨bm, 0, none⟩), .int .i64 a] (W.drewN q) fun e w' => e = .returned (.int .i64 (limboI n sm a)) ∧ w' = W.drewN q :=
  (mo_limbo (h.mo.below0 (bl_drewN (Below.refl _ _) q)) a).mono fun e w' ⟨he, hm⟩ => ⟨he, hm.symm⟩
theorem e_ripe (h : PW w W b bm R n c se sm lv mv) (a : Int) (hn : se.now ≤ 1000000) (hl : ∀ i, (se.lim i).length ≤ 500) (T : List RefV) (hT : ripeT n se a = T) :
    Calls Try.prog 15 #[.pointer (some ⟨b, 0, none⟩), .int .i64 a] W fun e w' => ∃ A c2 lv', e = .returned (.slice A T.length c2) ∧ RefsAt w' A T.length T ∧ (∀ k, (Value.slice A T.length c2).ownBlock = some k → ¬ MoOwn bm R n mv k) ∧ PW w w' b bm R n c (ripeS n se a) sm lv' mv := by
  subst hT
  rcases in_cases n a with ⟨k, hk, rfl⟩ | hbad
  · rw [ripeT_yes _ hk, ripeS_yes _ hk]
    refine (ripe_any h.ep hk hn (hl k)).mono ?_
    rintro e w' ⟨A, c2, v, rfl, hrow, he, ho, _⟩
    exact ⟨A, c2, _, rfl, RefsAt.of_own hrow, fun k hk hm => by
      have h1 := own_block hrow hk
      have h2 := h.mo.own_lt hm
      omega, h.stepE he ho⟩
  · rw [ripeT_no _ hbad, ripeS_no _ hbad]
    refine (ripe_bad h.ep a hbad).mono ?_
    rintro e w' ⟨rfl, hb⟩
    exact ⟨none, 0, _, rfl, ⟨rfl, fun h => absurd h (by decide)⟩, fun k hk => (by cases hk), h.below hb⟩
theorem m_ripe (h : PW w W b bm R n c se sm lv mv) (a : Int) (hn : sm.now ≤ 1000000) (hl : ∀ i, (sm.lim i).length ≤ 500) (T : List RefV) (hT : ripeT n sm a = T) :
    Calls Try.prog 25 #[.pointer (some ⟨bm, 0, none⟩), .int .i64 a] W fun e w' => ∃ A c2 mv', e = .returned (.slice A T.length c2) ∧ RefsAt w' A T.length T ∧ Only (MoOwn bm R n mv) W w' ∧ PW w w' b bm R n c se (ripeS n sm a) lv mv' := by
  subst hT
  rcases in_cases n a with ⟨k, hk, rfl⟩ | hbad
  · rw [ripeT_yes _ hk, ripeS_yes _ hk]
    refine (mo_ripe h.mo hk h.bel.size hn (hl k)).mono ?_
    rintro e w' ⟨A, c2, v, rfl, hrow, he, ho⟩
    exact ⟨A, c2, _, rfl, RefsAt.of_own hrow, ho, h.stepM he ho⟩
  · rw [ripeT_no _ hbad, ripeS_no _ hbad]
    refine (mo_ripe_bad h.mo a hbad).mono ?_
    rintro e w' ⟨rfl, rfl⟩
    exact ⟨none, 0, _, rfl, ⟨rfl, fun h => absurd h (by decide)⟩, Only.refl _ _, h⟩
/-- The state through the rounds. -/
structure PInv (n I : Nat) (s : EpS) : Prop where
  pin : PinOk n s
  now : s.now ≤ I
  lim : ∀ i, (s.lim i).length ≤ I
theorem PInv.start (n : Nat) : PInv n 0 EpS.zero := ⟨fun i => .inl rfl, Nat.le_refl _, fun i => Nat.le_refl _⟩
theorem PInv.later {n I : Nat} {s : EpS} (h : PInv n I s) : PInv n (I + 1) s := ⟨h.pin, Nat.le_succ_of_le h.now, fun i => Nat.le_succ_of_le (h.lim i)⟩
theorem PInv.pins {n I : Nat} {s : EpS} (h : PInv n I s) (a : Int) : PInv n (I + 1) (pinS n s a) := by
  rcases in_cases n a with ⟨k, hk, rfl⟩ | hbad
  · cases hB : pinB n s (k : Int)
    · rw [pinS_no _ hB]; exact h.later
    · rw [pinS, if_pos hB, Int.toNat_natCast]
      refine ⟨fun i => ?_, Nat.le_succ_of_le h.now, fun i => Nat.le_succ_of_le (h.lim i)⟩
      show upd s.pin k s.now i = -1 ∨ 0 ≤ upd s.pin k s.now i ∧ i < n
      by_cases e : i = k
      · subst e; rw [upd_same]; exact .inr ⟨by omega, hk⟩
      · rw [upd_other _ _ e]; exact h.pin i
  · rw [pinS_no _ (pinB_no hbad)]; exact h.later
theorem PInv.unpins {n I : Nat} {s : EpS} (h : PInv n I s) (a : Int) : PInv n (I + 1) (unpinS n s a) := by
  cases hB : unpinB n s a
  · rw [unpinS_no _ hB]; exact h.later
  · rw [unpinS, if_pos hB]
    refine ⟨fun i => ?_, Nat.le_succ_of_le h.now, fun i => Nat.le_succ_of_le (h.lim i)⟩
    show upd s.pin a.toNat (-1) i = -1 ∨ 0 ≤ upd s.pin a.toNat (-1) i ∧ i < n
    by_cases e : i = a.toNat
    · subst e; rw [upd_same]; exact .inl rfl
    · rw [upd_other _ _ e]; exact h.pin i
theorem PInv.retires {n I : Nat} {s : EpS} (h : PInv n I s) (a sl gn : Int) : PInv n (I + 1) (retS n s a sl gn) := by
  unfold retS
  split
  · refine ⟨h.pin, Nat.le_succ_of_le h.now, fun i => ?_⟩
    show (upd s.lim a.toNat (s.lim a.toNat ++ [_]) i).length ≤ I + 1
    by_cases e : i = a.toNat
    · subst e; rw [upd_same, List.length_append]; have := h.lim a.toNat; simp; exact this
    · rw [upd_other _ _ e]; exact Nat.le_succ_of_le (h.lim i)
  · exact h.later
theorem PInv.ripes {n I : Nat} {s : EpS} (h : PInv n I s) (a : Int) : PInv n (I + 1) (ripeS n s a) := by
  unfold ripeS
  split
  · refine ⟨h.pin, Nat.le_succ_of_le h.now, fun i => ?_⟩
    show (upd s.lim a.toNat (keptOf s.now (s.lim a.toNat)) i).length ≤ I + 1
    by_cases e : i = a.toNat
    · subst e; rw [upd_same]; exact Nat.le_succ_of_le (Nat.le_trans (List.length_filter_le _ _) (h.lim a.toNat))
    · rw [upd_other _ _ e]; exact Nat.le_succ_of_le (h.lim i)
  · exact h.later
theorem PInv.advances {n I : Nat} {s : EpS} (h : PInv n I s) : PInv n (I + 1) (advS n s) := by
  refine ⟨h.pin, ?_, fun i => Nat.le_succ_of_le (h.lim i)⟩
  have := h.now
  unfold advS
  split
  · show s.now ≤ I + 1; omega
  · show s.now + 1 ≤ I + 1; omega
theorem ripeT_len {n I : Nat} {s : EpS} (h : PInv n I s) (a : Int) : (ripeT n s a).length ≤ I := by
  unfold ripeT
  split
  · exact Nat.le_trans (told_length _ _) (h.lim _)
  · exact Nat.zero_le _
end Go.Proofs.Ytpklpomajioneaa
