/- Chapter 2: LexBack: tokens joined are read again. -/
import Derived.Test.YtkioabjdoccfeaaLexBk
import Derived.Deep.QuietTactic
import Derived.BigQuiet
namespace Go.Proofs.Ytkioabjdoccfeaa
open Go.RowKit
set_option linter.unusedVariables false
set_option linter.unusedSimpArgs false

theorem joinB_texts {ts us : List Tok} (h : us.map (·.text) = ts.map (·.text)) : joinB us = joinB ts := by unfold joinB; rw [h]
theorem joinB_short {ts : List Tok} {M : Nat} (h : ∀ t ∈ ts, t.text.length ≤ M) : (joinB ts).length ≤ ts.length * (M + 1) := by
  have h1 := joinB_length ts
  have h2 : (ts.map (·.text.length)).sum ≤ ts.length * M := by
    clear h1
    induction ts with
    | nil => simp
    | cons a r ih =>
      have := ih fun t ht => h t (by simp [ht])
      have := h a (by simp)
      simp only [List.map_cons, List.sum_cons, List.length_cons]
      rw [Nat.add_mul]
      omega
  rw [Nat.mul_add]
  omega
set_option maxRecDepth 100000 in
set_option maxHeartbeats 8000000 in
theorem back_law (s0 : ByteArray) (w : World) (_hs : s0.size ≤ 140737488351232) :
    Calls Try.prog 7 #[.string s0] w fun e w' => e = .returned (.bool true) ∧ Below w.heap.size w w' := by
  have hz := short_size s0
  have hsh := fun w => short_any s0 w
  generalize s0.extract 0 (min 90 s0.size) = s at *
  have hl := bl_length s
  have hf := each_facts (bl s)
  have hgood : ∀ t ∈ (eachL (bl s)).1, Good t := by
    rw [eachL_eq]
    exact rest_good _ _ _ (Nat.le_refl _) (skipN_le (Nat.zero_le _))
  have hea := fun w => each_at s (by omega) w
  generalize (eachL (bl s)).1 = ts at *
  obtain ⟨_, _, hf3, hf4⟩ := hf
  have htx : ∀ t ∈ ts, t.text.length ≤ 90 := fun t ht => by have := (hf3 t ht).2.1; omega
  have hn90 : ts.length ≤ 90 := by omega
  have hjl : ∀ I, (joinB (ts.take I)).length ≤ 1000000 := by
    intro I
    have h1 := joinB_short (ts := ts.take I) (M := 90) fun t ht => htx t (List.mem_of_mem_take ht)
    have h2 : (ts.take I).length ≤ 90 := by rw [List.length_take]; omega
    have h3 : (ts.take I).length * (90 + 1) ≤ 90 * 91 := Nat.mul_le_mul_right _ h2
    omega
  have hjl0 : (joinB ts).length ≤ 1000000 := by have := hjl ts.length; rwa [List.take_length] at this
  have hea2 := fun w => each_at (mkb (joinB ts)) (by rw [mkb_size]; exact hjl0) w
  rw [bl_mkb, each_again ts hgood] at hea2
  have hus := again_length ts 0
  have hut := joinB_texts (again_text ts 0)
  have hua := again_at ts 0
  have hba : ∀ J, J < ts.length → ((again 0 ts).getD J Tok.zero).at_ + ((again 0 ts).getD J Tok.zero).text.length ≤ 1000000 := by
    intro J hJ
    have hff := each_facts (joinB ts)
    rw [each_again ts hgood] at hff
    have hm : (again 0 ts).getD J Tok.zero ∈ again 0 ts := by
      have : J < (again 0 ts).length := by rw [hus]; exact hJ
      rw [List.getD_eq_getElem?_getD, List.getElem?_eq_getElem this]
      exact List.getElem_mem this
    exact Nat.le_trans (hff.2.2.1 _ hm).2.1 hjl0
  dsimp only at hea2
  generalize again 0 ts = us at *
  obtain ⟨n, hn⟩ : ∃ n, ts.length = n := ⟨_, rfl⟩
  rw [hus] at hea2
  rw [hn] at hea hea2 hua hn90 hba
  have HBA := Lib.hid hba
  clear hba
  have HSH := Lib.hid hsh
  have HEA := Lib.hid hea
  have HEA2 := Lib.hid hea2
  have HJL := Lib.hid hjl
  have HJL0 := Lib.hid hjl0
  have HUT := Lib.hid hut
  have HUA := Lib.hid hua
  have HN := Lib.hid hn
  clear hsh hea hea2 hjl hjl0 hut hua hn hus hgood hf3 hf4 htx hl
  go_enter Try.func7, Try.ntmps7
  go_wp2_with fail
  refine (awake_any _).mono ?_
  rintro e w1 ⟨rfl, hb1⟩
  go_wp2_with fail
  refine (HSH.out _).mono ?_
  rintro e w' ⟨rfl, rfl⟩
  go_wp2_with fail
  refine (HEA.out _).mono ?_
  rintro e w2 ⟨A, c, rfl, ht, hb2⟩
  have hb := bl_then hb1 hb2
  clear hb1 hb2
  have HT := Lib.hid ht
  clear ht
  go_wp2_with fail
  refine (ljoin_any A n c ts _ HT.out (by omega) HJL0.out).mono ?_
  rintro e w3 ⟨rfl, hb3⟩
  have ht3 := HT.out.below hb3
  have hb := bl_then hb hb3
  have HT := Lib.hid ht3
  clear ht3 hb3
  go_wp2_with fail
  refine (HEA2.out _).mono ?_
  rintro e w4 ⟨A2, c2, rfl, ht, hb4⟩
  have ht3 := HT.out.below hb4
  have hb := bl_then hb hb4
  have HT := Lib.hid ht3
  have HT2 := Lib.hid ht
  clear ht3 hb4 ht
  go_wp2_with fail
  have hjn := ljoin_any A2 n c2 us _ HT2.out (by omega) (by rw [HUT.out]; exact HJL0.out)
  rw [HUT.out] at hjn
  refine hjn.mono ?_
  rintro e w5 ⟨rfl, hb5⟩
  clear hjn
  have ht3 := HT.out.below hb5
  have ht4 := HT2.out.below hb5
  have hb := bl_then hb hb5
  have HT := Lib.hid ht3
  have HT2 := Lib.hid ht4
  clear ht3 ht4 hb5
  generalize hjs : mkb (joinB ts) = S at *
  have HJS := Lib.hid hjs
  clear hjs
  go_wp2_with fail
  go_loopw [7] (fun i wr => ∃ I : Nat, I ≤ n ∧ i = .int .i64 I ∧ Below w5.heap.size w5 wr) (fun i _ => n - (intOf i).toNat)
  case atStart => exact ⟨0, Nat.zero_le _, rfl, Below.refl _ _⟩
  case round =>
    obtain ⟨I, hI, rfl, hbr⟩ := hrel
    by_cases hlt : I < n
    · obtain ⟨g, rfl, hg, hc⟩ := (HT.out.below hbr).cells (by omega)
      obtain ⟨g2, rfl, hg2, hc2⟩ := (HT2.out.below hbr).cells (by omega)
      obtain ⟨a1, a2, a3, _⟩ := HUA.out I hlt
      have hcI := hc I hlt
      have hcI2 := hc2 I hlt
      rw [a1, a2, a3] at hcI2
      have iI : (I : Int) < n := by omega
      cases I with
      | zero =>
        clear hc hc2
        generalize (us.getD 0 Tok.zero).at_ = x2 at *
        generalize ts.getD 0 Tok.zero = tk at *
        obtain ⟨tk0, ta, tx, tn⟩ := tk
        dsimp only at hcI hcI2
        generalize mkb tx = T at *
        obtain ⟨c0, c1, c2, c3⟩ := hcI
        obtain ⟨d0, d1, d2, d3⟩ := hcI2
        clear a1 a2 a3
        go_wp2_with fail
        go_quiet (fail)
        go_wp2_with fail
        exact ⟨⟨1, hlt, by simp, bl_drewN hbr _⟩, by simp [intOf]; omega⟩
      | succ J =>
        obtain ⟨h_1, h_2, h_3, a4⟩ := HUA.out J (by omega)
        clear h_1 h_2 h_3
        have a4 := a4 hlt
        have hcJ := hc2 J (by omega)
        have hbJ := HBA.out J (by omega)
        clear hc hc2
        rw [a4] at hcI2
        generalize us.getD (J + 1) Tok.zero = uk at *
        generalize us.getD J Tok.zero = vk at *
        generalize ts.getD (J + 1) Tok.zero = tk at *
        obtain ⟨tk0, ta, tx, tn⟩ := tk
        obtain ⟨vk0, va, vx, vn⟩ := vk
        dsimp only at hcI hcI2 hcJ hbJ
        obtain ⟨V, hV⟩ : ∃ V, mkb vx = V := ⟨_, rfl⟩
        have hVs : V.size = vx.length := by rw [← hV, mkb_size]
        simp only [hV] at hcJ
        rw [← hVs] at hbJ hcI2
        generalize mkb tx = T at *
        obtain ⟨c0, c1, c2, c3⟩ := hcI
        obtain ⟨d0, d1, d2, d3⟩ := hcI2
        obtain ⟨_, f1, f2, _⟩ := hcJ
        obtain ⟨x2, hx2⟩ : ∃ x2, va + V.size + 1 = x2 := ⟨_, rfl⟩
        rw [hx2] at d1
        have q1 : ((x2 : Int) != (va : Int) + V.size + 1) = false := by rw [← hx2]; simp
        have q2 : (0 : Int) < J + 1 := by omega
        clear a1 a2 a3 a4 hV hVs hx2
        go_wp2_with fail
        go_quiet (fail)
        go_wp2_with fail
        exact ⟨⟨J + 2, hlt, by simp; omega, bl_drewN hbr _⟩, by simp [intOf]; omega⟩
    · obtain rfl : I = n := by omega
      have iI : ¬ (I : Int) < I := by omega
      have hrj := rjoin_any A I c ts wr (HT.out.below hbr) (by omega) (fun I _ => HJL.out I)
      rw [HJS.out] at hrj
      have HRJ := Lib.hid hrj
      clear hrj
      go_wp2_with fail
      refine HRJ.out.mono ?_
      rintro e w6 ⟨rfl, hb6⟩
      go_wp2_with fail
      go_ret
      exact ⟨rfl, bl_then hb (bl_then hbr hb6)⟩
end Go.Proofs.Ytkioabjdoccfeaa
