/- Chapter 2: number and sign: the walks. -/
import Derived.Test.YtkioabjdoccfeaaLexW
import Derived.Lib.ConvBytes
namespace Go.Proofs.Ytkioabjdoccfeaa
open Go.RowKit
set_option linter.unusedVariables false
set_option linter.unusedSimpArgs false

theorem bytesWorld_below (w : World) (e : TypeId) (s : ByteArray) : Below w.heap.size w (Lib.bytesWorld w e s) := by
  refine ⟨rfl, rfl, rfl, by rw [Lib.bytesWorld_size]; omega, fun k hk => Lib.bytesWorld_at_old w e s k hk⟩
def most63 : Nat := 9223372036854775807
theorem numOf_le : ∀ (l : Bytes) (n : Nat), (∀ c ∈ l, isDigit c = true) → numOf l = some n → n ≤ most63 := by
  intro l
  rw [← List.reverse_reverse l]
  induction l.reverse with
  | nil => intro n _ h; simp [numOf] at h; subst h; exact Nat.zero_le _
  | cons c r ih =>
    intro n hd h
    rw [List.reverse_cons, numOf_snoc] at h
    rw [List.reverse_cons] at hd
    have hc : isDigit c = true := hd c (by simp)
    simp [isDigit] at hc
    cases hr : numOf r.reverse with
    | none => rw [hr] at h; cases h
    | some m =>
      rw [hr] at h
      have := ih m (fun c hc => hd c (by simp at hc ⊢; exact .inl hc)) hr
      simp only [numStep] at h
      split at h
      · cases h
      · injection h with h
        unfold most63 at *
        omega
theorem take_snoc' (s : ByteArray) (k : Nat) (h : k < s.size) : (bl s).take (k + 1) = (bl s).take k ++ [s[k]] := by
  rw [List.take_succ_eq_append_getElem (by rw [bl_length]; exact h)]; rfl
def numP (l : Bytes) : Int × Bool := match numOf l with
  | some n => (n, true)
  | none => (0, false)
set_option maxHeartbeats 1000000 in
theorem number_any (s : ByteArray) (w : World) (hs : s.size ≤ 1000000) (hd : ∀ c ∈ bl s, isDigit c = true) :
    Calls Try.prog 40 #[.string s] w fun e w' => e = .returned (.tuple #[.int .i64 (numP (bl s)).1, .bool (numP (bl s)).2]) ∧ Below w.heap.size w w' := by
  have kc := Lib.run_convert_string_bytes (P := Try.prog) w 9 33 5 s Try.underlying9 Try.underlying33 Try.underlying5
  have hb := bytesWorld_below w 5 s
  have hcell := fun j (hj : j < s.size) => Lib.bytesWorld_cell w 5 s j hj
  go_enter Try.func40, Try.ntmps40
  generalize Lib.bytesWorld w 5 s = w1 at *
  generalize grownCap w s.size 0 5 = cap at *
  have HC := Lib.hid hcell
  have HD := Lib.hid hd
  clear hcell hd
  go_wp2_with fail
  go_loop [4, 11] (fun n i => ∃ (j m : Nat), j ≤ s.size ∧ i = .int .i64 j ∧ n = .int .i64 m ∧ Hid (numOf ((bl s).take j) = some m)) (fun _ i => s.size - (intOf i).toNat)
  case atStart => exact ⟨0, 0, Nat.zero_le _, rfl, rfl, Lib.hid rfl⟩
  case round =>
    obtain ⟨j, m, h1, rfl, rfl, hn⟩ := hrel
    have hm : m ≤ most63 := numOf_le _ _ (fun c hc => HD.out c (List.mem_of_mem_take hc)) hn.out
    by_cases hlt : j < s.size
    · have il : (j : Int) < s.size := by omega
      have cj := HC.out j hlt
      have hdj := HD.out (s[j]) (by
        have := List.getElem_mem (l := bl s) (n := j) (by rw [bl_length]; exact hlt)
        exact this)
      have hx : (s.data.toList.getD j 0) = s[j] := by
        rw [List.getD_eq_getElem?_getD, List.getElem?_eq_getElem (by rw [Array.length_toList]; exact hlt)]
        rfl
      rw [hx] at cj
      have hsn := take_snoc' s j hlt
      have hst := numOf_snoc ((bl s).take j) (s[j])
      rw [← hsn, hn.out] at hst
      generalize s[j] = c at *
      simp [isDigit] at hdj
      obtain ⟨d, hdn⟩ : ∃ d, c.toNat = 48 + d := ⟨c.toNat - 48, by omega⟩
      rw [hdn] at cj
      have hd9 : d ≤ 9 := by omega
      simp only [numStep, hdn, Nat.add_sub_cancel_left] at hst
      have HST := Lib.hid hst
      have HM : Hid (m ≤ most63) := Lib.hid hm
      clear hst hsn hx hdj hdn hm
      have hc2 : ((48 + d : Nat) : Int) = 48 + (d : Int) := by omega
      rw [hc2] at cj
      clear hc2
      go_wp2_with fail
      · have hgt : (9223372036854775807 - (48 + (d : Int) - 48)) / 10 < (m : Int) := by assumption
        go_ret2
        refine ⟨?_, hb⟩
        have : numOf (bl s) = none := numOf_pre (k := j + 1) (by rw [HST.out, if_pos (by omega)])
        unfold numP
        rw [this]
        rfl
      · have hle : (m : Int) ≤ (9223372036854775807 - (48 + (d : Int) - 48)) / 10 := by assumption
        refine ⟨⟨j + 1, m * 10 + d, by omega, by simp, ?_, Lib.hid (by rw [HST.out, if_neg (by omega)])⟩, by simp [intOf]; omega⟩
        simp
        omega
    · have he : (bl s).take j = bl s := List.take_of_length_le (by rw [bl_length]; omega)
      rw [he] at hn
      have il : ¬ (j : Int) < s.size := by omega
      have HE := Lib.hid he
      clear he hm
      go_wp2_with fail
      go_ret2
      refine ⟨?_, hb⟩
      unfold numP
      rw [hn.out]
      rfl
theorem sign_in (c : UInt8) : (bl ⟨#[44, 43, 45, 42, 47, 37, 61, 60, 62, 46, 35, 33, 40, 41]⟩).contains c = isSign c := rfl
theorem two_in (c : UInt8) : (bl ⟨#[33, 60, 62]⟩).contains c = isTwo c := rfl
theorem bl_cons {s : ByteArray} (h : 0 < s.size) : bl s = s[0] :: (bl s).drop 1 := by
  have hl := bl_length s
  have hx := bl_get s 0 h
  match hm : bl s with
  | [] => rw [hm] at hl; simp at hl; omega
  | c :: r =>
    simp only [hm, List.getElem_cons_zero] at hx
    rw [← hx]; rfl
theorem bl_head2 {s : ByteArray} (h : 1 < s.size) : ((bl s).drop 1).head? = some s[1] := by
  rw [List.head?_drop, List.getElem?_eq_getElem (by rw [bl_length]; exact h)]
  rfl
theorem bl_head2_none {s : ByteArray} (h : ¬ 1 < s.size) : ((bl s).drop 1).head? = none := by
  rw [List.head?_drop, List.getElem?_eq_none (by rw [bl_length]; omega)]
theorem mkb_take (s : ByteArray) (k : Nat) : mkb ((bl s).take k) = s.extract 0 k := bl_inj (by rw [bl_mkb, bl_extract, List.drop_zero])
set_option maxHeartbeats 1000000 in
theorem sign_one (s : ByteArray) (w : World) (hs : s.size ≤ 1000000) (h0 : 0 < s.size) (h1 : 1 < s.size) (h2 : (s[1].toNat : Int) == 61) (h3 : isTwo (s[0]) = true) :
    Calls Try.prog 43 #[.string s] w fun e w' => e = .returned (.string (s.extract 0 2)) ∧ w = w' := by
  have i0 : (0 : Int) < s.size := by omega
  have i1 : (1 : Int) < s.size := by omega
  have hct := fun w => in_any ⟨#[33, 60, 62]⟩ (s[0]) _ ((two_in (s[0])).trans h3) w
  have HCT := Lib.hid hct
  clear hct h3
  go_enter Try.func43, Try.ntmps43
  go_wp2_with fail
  refine (HCT.out _).mono ?_
  rintro e w' ⟨⟨v, rfl, hv⟩, rfl⟩
  go_wp2_with fail
  go_ret
  exact ⟨rfl, rfl⟩
set_option maxHeartbeats 1000000 in
theorem sign_rest (s : ByteArray) (w : World) (hs : s.size ≤ 1000000) (h0 : 0 < s.size) (b : Bool) (hb : isSign (s[0]) = b) (h1 : ¬ 1 < s.size ∨ (∃ h : 1 < s.size, ((s[1].toNat : Int) == 61) = false) ∨ (∃ h : 1 < s.size, ((s[1].toNat : Int) == 61) = true ∧ isTwo (s[0]) = false)) :
    Calls Try.prog 43 #[.string s] w fun e w' => e = .returned (.string (if b = true then s.extract 0 1 else ⟨#[]⟩)) ∧ w = w' := by
  have i0 : (0 : Int) < s.size := by omega
  have hcs := fun w => in_any ⟨#[44, 43, 45, 42, 47, 37, 61, 60, 62, 46, 35, 33, 40, 41]⟩ (s[0]) _ ((sign_in (s[0])).trans hb) w
  have HCS := Lib.hid hcs
  clear hcs hb
  rcases h1 with h1 | ⟨h1, h2⟩ | ⟨h1, h2, h3⟩
  · have i1 : ¬ (1 : Int) < s.size := by omega
    go_enter Try.func43, Try.ntmps43
    go_wp2_with fail
    refine (HCS.out _).mono ?_
    rintro e w' ⟨⟨v, rfl, hv⟩, rfl⟩
    cases b
    all_goals
      go_wp2_with fail
      go_ret
      exact ⟨rfl, rfl⟩
  · have i1 : (1 : Int) < s.size := by omega
    go_enter Try.func43, Try.ntmps43
    go_wp2_with fail
    refine (HCS.out _).mono ?_
    rintro e w' ⟨⟨v, rfl, hv⟩, rfl⟩
    cases b
    all_goals
      go_wp2_with fail
      go_ret
      exact ⟨rfl, rfl⟩
  · have i1 : (1 : Int) < s.size := by omega
    have hct := fun w => in_any ⟨#[33, 60, 62]⟩ (s[0]) _ ((two_in (s[0])).trans h3) w
    have HCT := Lib.hid hct
    clear hct h3
    go_enter Try.func43, Try.ntmps43
    go_wp2_with fail
    refine (HCT.out _).mono ?_
    rintro e w' ⟨⟨v, rfl, hv⟩, rfl⟩
    go_wp2_with fail
    refine (HCS.out _).mono ?_
    rintro e w' ⟨⟨v2, rfl, hv2⟩, rfl⟩
    cases b
    all_goals
      go_wp2_with fail
      go_ret
      exact ⟨rfl, rfl⟩
theorem byte_eq (c : UInt8) (n : Nat) (hn : n < 256) : (c == UInt8.ofNat n) = ((c.toNat : Int) == n) := by
  rw [Bool.eq_iff_iff]
  simp only [beq_iff_eq]
  constructor
  · rintro rfl
    simp; omega
  · intro h
    rw [← UInt8.toNat_inj]
    simp; omega
theorem sign_any (s : ByteArray) (w : World) (hs : s.size ≤ 1000000) (h0 : 0 < s.size) :
    Calls Try.prog 43 #[.string s] w fun e w' => e = .returned (.string (s.extract 0 (signN (bl s)))) ∧ w = w' := by
  have hcons := bl_cons h0
  have hsg : signN (bl s) = if (((bl s).drop 1).head? == some 61 && isTwo (s[0])) = true then 2 else if isSign (s[0]) = true then 1 else 0 := by
    rw [hcons]
    rfl
  have hz : s.extract 0 0 = ⟨#[]⟩ := bl_inj (by rw [bl_extract]; rfl)
  have key : ∀ b : Bool, (if b = true then s.extract 0 1 else (⟨#[]⟩ : ByteArray)) = s.extract 0 (if b = true then 1 else 0) := by
    intro b
    cases b
    · exact hz.symm
    · rfl
  by_cases h1 : 1 < s.size
  · rw [bl_head2 h1] at hsg
    have he : ((some s[1] : Option UInt8) == some 61) = ((s[1].toNat : Int) == 61) := by
      have := byte_eq (s[1]) 61 (by decide)
      exact this
    rw [he] at hsg
    by_cases h2 : ((s[1].toNat : Int) == 61) = true
    · by_cases h3 : isTwo (s[0]) = true
      · rw [hsg, h2, h3]
        exact sign_one s w hs h0 h1 h2 h3
      · rw [show isTwo (s[0]) = false by simpa using h3] at hsg
        rw [hsg, h2]
        have := sign_rest s w hs h0 _ rfl (.inr (.inr ⟨h1, h2, by simpa using h3⟩))
        rw [key] at this
        exact this
    · rw [show ((s[1].toNat : Int) == 61) = false by simpa using h2] at hsg
      rw [hsg]
      have := sign_rest s w hs h0 _ rfl (.inr (.inl ⟨h1, by simpa using h2⟩))
      rw [key] at this
      exact this
  · rw [bl_head2_none h1] at hsg
    rw [hsg]
    have := sign_rest s w hs h0 _ rfl (.inl h1)
    rw [key] at this
    exact this
end Go.Proofs.Ytkioabjdoccfeaa
