/- Chapter 6: all numbers of a match, one behind the other. -/
import Derived.Test.YtmiijnemacgbiaaTupU
namespace Go.Proofs.Ytmiijnemacgbiaa
open Go.RowKit
set_option linter.unusedVariables false
set_option linter.unusedSimpArgs false
def GrowOut (w : World) (e : Ending) (w' : World) : Prop := ∃ v, e = .returned v ∧ w'.ownsRow w.heap.size 3 1 v 0 [] ∧ Below w.heap.size w w'
set_option maxHeartbeats 2000000 in
theorem grow_at (n : Nat) (hn : n ≤ 1000) (w : World) : Calls Try.prog 35 #[.slice none 0 0, .int .i64 n] w (GrowOut w) := by
  obtain ⟨i0, hi, hz0, hz1, hz2⟩ := info_parts infoInt
  by_cases h0 : 0 < n
  · have iN : (0 : Int) < n := by omega
    have hb3 : (Try.t3.bytes : Nat) = 8 := rfl
    have n1 : ¬ n = 0 := by omega
    have n2 : (n : Int) * (Try.t3.bytes : Nat) ≤ 281474976710656 := by rw [hb3]; omega
    have n3 : ¬ 281474976710656 < Builtin.nextslicecap n 0 * Try.t3.bytes := by
      have : Builtin.nextslicecap n 0 = n := by unfold Builtin.nextslicecap; rw [if_pos (by omega)]
      rw [this, hb3]; omega
    have n4 : (0 : Int) ≤ n := by omega
    have n5 : (n : Int) ≤ 9223372036854775807 := by omega
    clear hb3
    go_enter Try.func35, Try.ntmps35
    go_wp2_with fail
    obtain ⟨C, hC⟩ : ∃ C, (Question.appendCap n 0 3).cut (w.tape w.drawn (Question.appendCap n 0 3)) = C := ⟨_, rfl⟩
    have hC1 : n ≤ C ∧ C ≤ maxLen := by
      rw [← hC]
      simp only [Question.cut, maxLen]
      have := Nat.mod_lt (w.tape w.drawn (Question.appendCap n 0 3)) (show 0 < 2 ^ 63 - n by omega)
      omega
    simp only [hC]
    go_ret
    have hnew := alloc_new w (.cells (Builtin.zeroCells #[.int .i64 0] n ++ Builtin.zeroCells #[.int .i64 0] (C - n)) 3)
    refine ⟨_, rfl, ⟨rfl, .inr ⟨_, C, _, rfl, Nat.le_refl _, hnew, Nat.zero_le _, hC1.2, ?_, by simp⟩⟩, bl_drew (bl_alloc (Below.refl _ _) _)⟩
    rw [Array.size_append]
    simp only [Builtin.zeroCells]
    simp
    omega
  · obtain rfl : n = 0 := by omega
    go_enter Try.func35, Try.ntmps35
    go_wp2_with fail
    go_ret
    exact ⟨_, rfl, ⟨rfl, .inl ⟨rfl, rfl⟩⟩, Below.refl _ _⟩
theorem IntsAt.reads {w : World} {a : Option Addr} {n c : Nat} {zs : List Int} (h : IntsAt w a n zs) (hnil : a = none → n = 0 ∧ c = 0) : Reads w 1 (.slice a n c) n (intCells zs) := by
  refine ⟨by rw [intCells, List.length_map, h.len, Nat.mul_one], fun u hu => by obtain ⟨z, _, rfl⟩ := List.mem_map.1 hu; rfl, ?_⟩
  cases a with
  | none =>
    obtain ⟨rfl, rfl⟩ := hnil rfl
    exact .inr ⟨rfl, rfl⟩
  | some ad =>
    refine .inl ⟨ad, c, rfl, fun j u hj => ?_⟩
    have hj2 : j < zs.length := by have := (List.getElem?_eq_some_iff.1 hj).1; rwa [intCells, List.length_map] at this
    obtain ⟨b, off, e, _, hc⟩ := h.cells (by rw [← h.len]; omega)
    injection e with e
    subst e
    have := hc j (by rw [← h.len]; exact hj2)
    rw [intCells, List.getElem?_map, List.getElem?_eq_getElem hj2] at hj
    injection hj with hj
    rw [← hj]
    rw [List.getD_eq_getElem?_getD, List.getElem?_eq_getElem hj2] at this
    simpa [Addr.add_lit] using this
/-- The numbers of the first I rows. -/
def flatN (rs : List RowV) (I : Nat) : List Int := ((rs.take I).map (·.zs)).flatten
theorem flatN_step {rs : List RowV} {I : Nat} {r : RowV} (h : rs[I]? = some r) : flatN rs (I + 1) = flatN rs I ++ r.zs := by
  unfold flatN
  rw [List.take_add_one, h, List.map_append, List.flatten_append]
  simp
def FlatOut (w : World) (l : List Int) (e : Ending) (w' : World) : Prop := ∃ A c, e = .returned (.slice A l.length c) ∧ IntsAt w' A l.length l ∧ Below w.heap.size w w'
/-- What is told of a match: enough to read its rows one behind the other. -/
structure FlatIn (w : World) (A : Option Addr) (n : Nat) (rs : List RowV) : Prop where
  rows : RowsAt w A n rs
  few : n ≤ 12
  four : ∀ q ∈ rs, q.n ≤ 4
theorem FlatIn.below {w w' : World} {A : Option Addr} {n : Nat} {rs : List RowV} (h : FlatIn w A n rs) (hb : Below w.heap.size w w') : FlatIn w' A n rs := ⟨h.rows.below hb, h.few, h.four⟩
theorem FlatIn.at_ {w : World} {A : Option Addr} {n : Nat} {rs : List RowV} (h : FlatIn w A n rs) {I : Nat} (hI : I < n) :
    ∃ g off r, A = some ⟨g, off, none⟩ ∧ rs[I]? = some r ∧ w.cell? ⟨g, off + I, none⟩ = some (.slice r.a r.n r.c) ∧ r.n ≤ 4 ∧ r.n ≤ r.c ∧ r.zs.length = r.n ∧ Reads w 1 (.slice r.a r.n r.c) r.n (intCells r.zs) := by
  obtain ⟨g, off, rfl, _, hc⟩ := h.rows.cells (by omega)
  have hr := List.getElem?_eq_getElem (show I < rs.length by rw [h.rows.len]; exact hI)
  obtain ⟨h1, h2, h3, h4⟩ := h.rows.each _ (List.mem_of_getElem? hr)
  exact ⟨g, off, _, rfl, hr, hc I _ hr, h.four _ (List.mem_of_getElem? hr), h1, h4.len, h4.reads h3⟩
theorem FlatIn.wf {w : World} {A : Option Addr} {n : Nat} {rs : List RowV} (h : FlatIn w A n rs) (I : Nat) : ∀ z ∈ flatN rs I, -9223372036854775808 ≤ z ∧ z ≤ 9223372036854775807 := by
  intro z hz
  obtain ⟨l, hl, hz⟩ := List.mem_flatten.1 hz
  obtain ⟨r, hr, rfl⟩ := List.mem_map.1 hl
  exact (h.rows.each r (List.mem_of_mem_take hr)).2.2.2.wf z hz
theorem FlatIn.done {w w' : World} {A : Option Addr} {n : Nat} {rs : List RowV} (h : FlatIn w A n rs) {v : Value} {L : Nat} (hL : L ≤ 48) (hl : (flatN rs n).length = L) (hrow : w'.ownsRow w.heap.size 3 1 v L (intCells (flatN rs n))) (hb : Below w.heap.size w w') : FlatOut w (flatN rs n) (.returned v) w' := by
  obtain ⟨A', c, rfl⟩ := own_form hrow
  subst hl
  exact ⟨A', c, rfl, IntsAt.of_own hrow (by omega) (h.wf n), hb⟩
set_option maxHeartbeats 4000000 in
theorem concat_at {w : World} {A : Option Addr} {n c : Nat} {rs : List RowV} (h : FlatIn w A n rs) :
    Calls Try.prog 32 #[.slice A n c] w (FlatOut w (flatN rs n)) := by
  have hn := h.few
  have H := Lib.hid h
  clear h
  obtain ⟨i0, hi, hz0, hz1, hz2⟩ := info_parts infoInt
  go_enter Try.func32, Try.ntmps32
  go_wp2_with fail
  go_loopw [3, 11] (fun s i wr => ∃ I L : Nat, I ≤ n ∧ i = .int .i64 I ∧ s = .int .i64 L ∧ (flatN rs I).length = L ∧ L ≤ I * 4 ∧ wr = w) (fun _ i _ => n - (intOf i).toNat)
  case atStart => exact ⟨0, 0, Nat.zero_le _, rfl, rfl, rfl, Nat.le_refl _, rfl⟩
  case round =>
    obtain ⟨I, L, hI, rfl, rfl, hL, hL4, rfl⟩ := hrel
    by_cases hlt : I < n
    · have iI : (I : Int) < n := by omega
      obtain ⟨g, off, r, rfl, hr, hc, hr4, hrc, hrz, _⟩ := H.out.at_ hlt
      have hs := flatN_step hr
      have HS := Lib.hid hs
      have HL := Lib.hid hL
      have HZ := Lib.hid hrz
      clear hs hL hr hrz
      obtain ⟨ra, rn, rc, rz⟩ := r
      dsimp only at hc hr4 hrc
      have n0 : ¬ (L : Int) + rn < 0 := by omega
      go_wp2_with fail
      go_roundw
      case rel => exact ⟨I + 1, L + rn, hlt, by simp, by simp, by rw [HS.out, List.length_append, HL.out]; have := HZ.out; dsimp only at this ⊢; omega, by omega, trivial⟩
      case measure => simp [intOf]; omega
    · obtain rfl : I = n := by omega
      have iI : ¬ (I : Int) < I := by omega
      obtain ⟨wo, hwo⟩ : ∃ wo, wo = wr := ⟨_, rfl⟩
      subst hwo
      have HL := Lib.hid hL
      have HG := Lib.hid (grow_at L (by omega) wo)
      clear hL
      go_wp2_with fail
      refine HG.out.mono ?_
      rintro e w2 ⟨v, rfl, hrow, hb⟩
      have hst : ∃ J M : Nat, J ≤ I ∧ Value.int .i64 0 = .int .i64 (J : Int) ∧ (flatN rs J).length = M ∧ M ≤ J * 4 ∧ w2.ownsRow wo.heap.size 3 1 v M (intCells (flatN rs J)) ∧ Below wo.heap.size wo w2 := ⟨0, 0, Nat.zero_le _, rfl, rfl, Nat.le_refl _, hrow, hb⟩
      have HST := Lib.hid hst
      clear hrow hb hst HG
      go_wp2_with fail
      go_loopw [6, 27] (fun s i W => ∃ J M : Nat, J ≤ I ∧ i = .int .i64 J ∧ (flatN rs J).length = M ∧ M ≤ J * 4 ∧ W.ownsRow wo.heap.size 3 1 s M (intCells (flatN rs J)) ∧ Below wo.heap.size wo W) (fun _ i _ => I - (intOf i).toNat)
      case atStart => exact HST.out
      case round =>
        obtain ⟨J, M, hJ, rfl, hM, hM4, hrow, hb⟩ := hrel
        by_cases hlt : J < I
        · have iJ : (J : Int) < I := by omega
          obtain ⟨g, off, r, rfl, hr, hc, hr4, hrc, hrz, hrd⟩ := (H.out.below hb).at_ hlt
          have hs := flatN_step hr
          have hz9 := hb.size
          have HS := Lib.hid hs
          have HM := Lib.hid hM
          have HZ := Lib.hid hrz
          have HROW := Lib.hid hrow
          have HB := Lib.hid hb
          have HRD := Lib.hid hrd
          clear hs hM hr hrz hrow hb hrd
          obtain ⟨ra, rn, rc, rz⟩ := r
          dsimp only at hc hr4 hrc
          go_wp2_with (at_builtin; refine wpList_append_reads _ rfl (.tmp 31) (.tmp 32) 26 rfl wo.heap.size 3 i0 _ 1 8 Try.underlying26 hi hz0 hz1 hz2 rfl (by decide) _ M (intCells (flatN rs J)) rfl HROW.out _ rn _ rfl HRD.out (by simp only [maxLen]; omega) (by omega) hz9 ?_; intro v8 w8 hown8 hgr8; have ho8 := only_grown (Only.refl _ _) hgr8 (fun k hk => .inl hk); have hb8 := bl_only HB.out ho8 (fun k hk => own_block HROW.out hk))
          go_roundw
          case rel => exact ⟨J + 1, M + rn, hlt, by simp, by rw [HS.out, List.length_append, HM.out]; have := HZ.out; dsimp only at this ⊢; omega, by omega, by rw [HS.out, intCells_append]; exact hown8, hb8⟩
          case measure => simp [intOf]; omega
        · obtain rfl : J = I := by omega
          have iJ : ¬ (J : Int) < J := by omega
          have hd := H.out.done (by omega) hM hrow hb
          have HD := Lib.hid hd
          clear hd hM hrow hb
          go_wp2_with fail
          go_ret
          exact HD.out
set_option maxHeartbeats 2000000 in
theorem flat_at {w : World} {A : Option Addr} {n c : Nat} {rs : List RowV} (h : FlatIn w A n rs) :
    Calls Try.prog 17 #[.slice A n c] w (FlatOut w (flatN rs n)) := by
  have HC := Lib.hid (concat_at (c := c) h)
  clear h
  go_enter Try.func17, Try.ntmps17
  go_wp2_with fail
  refine HC.out.mono ?_
  rintro e w1 ⟨A', c', rfl, h⟩
  have H := Lib.hid h
  clear h HC
  go_wp2_with fail
  go_ret
  exact ⟨A', c', rfl, H.out⟩
set_option maxHeartbeats 2000000 in
theorem rflat_at {wo : World} {A : Option Addr} {n c : Nat} {rs : List RowV} (h : FlatIn wo A n rs) :
    Calls Try.prog 18 #[.slice A n c] wo (FlatOut wo (flatN rs n)) := by
  have hn := h.few
  have H := Lib.hid h
  clear h
  obtain ⟨i0, hi, hz0, hz1, hz2⟩ := info_parts infoInt
  go_enter Try.func18, Try.ntmps18
  go_wp2_with fail
  go_loopw [3, 4] (fun s i W => ∃ J M : Nat, J ≤ n ∧ i = .int .i64 J ∧ (flatN rs J).length = M ∧ M ≤ J * 4 ∧ W.ownsRow wo.heap.size 3 1 s M (intCells (flatN rs J)) ∧ Below wo.heap.size wo W) (fun _ i _ => n - (intOf i).toNat)
  case atStart => exact ⟨0, 0, Nat.zero_le _, rfl, rfl, Nat.le_refl _, ⟨rfl, .inl ⟨rfl, rfl⟩⟩, Below.refl _ _⟩
  case round =>
    obtain ⟨J, M, hJ, rfl, hM, hM4, hrow, hb⟩ := hrel
    by_cases hlt : J < n
    · have iJ : (J : Int) < n := by omega
      obtain ⟨g, off, r, rfl, hr, hc, hr4, hrc, hrz, hrd⟩ := (H.out.below hb).at_ hlt
      have hs := flatN_step hr
      have hz9 := hb.size
      have HS := Lib.hid hs
      have HM := Lib.hid hM
      have HZ := Lib.hid hrz
      have HROW := Lib.hid hrow
      have HB := Lib.hid hb
      have HRD := Lib.hid hrd
      clear hs hM hr hrz hrow hb hrd
      obtain ⟨ra, rn, rc, rz⟩ := r
      dsimp only at hc hr4 hrc
      go_wp2_with (at_builtin; refine wpList_append_reads _ rfl (.tmp 11) (.tmp 15) 26 rfl wo.heap.size 3 i0 _ 1 8 Try.underlying26 hi hz0 hz1 hz2 rfl (by decide) _ M (intCells (flatN rs J)) rfl HROW.out _ rn _ rfl HRD.out (by simp only [maxLen]; omega) (by omega) hz9 ?_; intro v8 w8 hown8 hgr8; have ho8 := only_grown (Only.refl _ _) hgr8 (fun k hk => .inl hk); have hb8 := bl_only HB.out ho8 (fun k hk => own_block HROW.out hk))
      go_roundw
      case rel => exact ⟨J + 1, M + rn, hlt, by simp, by rw [HS.out, List.length_append, HM.out]; have := HZ.out; dsimp only at this ⊢; omega, by omega, by rw [HS.out, intCells_append]; exact hown8, hb8⟩
      case measure => simp [intOf]; omega
    · obtain rfl : J = n := by omega
      have iJ : ¬ (J : Int) < J := by omega
      have hd := H.out.done (by omega) hM hrow hb
      have HD := Lib.hid hd
      clear hd hM hrow hb
      go_wp2_with fail
      go_ret
      exact HD.out
end Go.Proofs.Ytmiijnemacgbiaa
