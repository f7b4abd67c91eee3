/- Chapter 12: Ripe. -/
import Derived.Test.YtpklpomajioneaaDelete
namespace Go.Proofs.Ytpklpomajioneaa
open Go.RowKit
set_option linter.unusedVariables false
set_option linter.unusedSimpArgs false

theorem EpAt.ripened {w w1 : World} {lo b n X O a : Nat} {s : EpS} {lv : Nat → Value} (h : EpAt w lo b n s lv) (ha : a < 16) {v : Value} {K : List OldV} {l : List RefV} (hj : RJ w w1 lo b X O v K l) (hv : v.ownBlock = (lv a).ownBlock) :
    EpAt (w1.setCell ⟨b, 18 + a, none⟩ v) lo b n { s with lim := upd s.lim a K } (upd lv a v) ∧ Only (EpOwn b lv) w (w1.setCell ⟨b, 18 + a, none⟩ v) ∧ ∀ k, EpOwn b (upd lv a v) k → EpOwn b lv k := by
  have hbl := block_lt h.blk
  have ho1 : Only (fun k => (lv a).ownBlock = some k ∨ w.heap.size ≤ k) w w1 := by rw [← hv]; exact hj.only
  have hblk := ho1.block h.blk (by
    rintro (hk | hk)
    · exact h.rows_not_b ha hk
    · omega)
  have hb := setCell_same hblk (i := 18 + a) v
  rw [epCells_set_lim n s lv ha v] at hb
  have ho2 : Only (fun k => k = b) w1 (w1.setCell ⟨b, 18 + a, none⟩ v) := (Only.refl (fun k => k = b) w1).setCell _ _ (.inl rfl)
  have hot : ∀ k, EpOwn b (upd lv a v) k → EpOwn b lv k := by
    rintro k (rfl | ⟨i, hi, hk⟩)
    · exact .inl rfl
    · by_cases hia : i = a
      · subst hia
        rw [upd_same, hv] at hk
        exact .inr ⟨i, hi, hk⟩
      · rw [upd_other _ _ hia] at hk
        exact .inr ⟨i, hi, hk⟩
  refine ⟨⟨hb, h.lob, h.n1, h.n16, fun i hi => ?_, fun i j k hi hj hij hk => ?_⟩, ?_, hot⟩
  · show (w1.setCell ⟨b, 18 + a, none⟩ v).ownsRow lo 64 3 (upd lv a v i) (upd s.lim a K i).length (oldCells (upd s.lim a K i))
    by_cases hia : i = a
    · subst hia
      rw [upd_same, upd_same]
      exact ownsRow_kept hj.row ho2 (by rintro j rfl hk; rw [hv] at hk; exact h.rows_not_b hi hk)
    · rw [upd_other _ _ hia, upd_other _ _ hia]
      refine ownsRow_kept (ownsRow_kept (h.row i hi) ho1 (fun j hj hk => ?_)) ho2 (by rintro j rfl hk; exact h.rows_not_b hi hk)
      rcases hj with hj | hj
      · exact h.apart a i j ha hi (fun e => hia e.symm) hj hk
      · have := Go.Proofs.Ytpklpomajioneaa.own_lt (h.row i hi) hk
        omega
  · have hov : ∀ i, i < 16 → (upd lv a v i).ownBlock = (lv i).ownBlock := fun i hi => by
      by_cases hia : i = a
      · subst hia; rw [upd_same, hv]
      · rw [upd_other _ _ hia]
    rw [hov j hj]
    rw [hov i hi] at hk
    exact h.apart i j k hi hj hij hk
  · refine ⟨ho2.os.trans ho1.os, ho2.tape.trans ho1.tape, ho2.output.trans ho1.output, Nat.le_trans ho1.size ho2.size, fun k hk hn => ?_⟩
    refine (ho2.keep k (Nat.lt_of_lt_of_le hk ho1.size) (fun e => hn (.inl e))).trans (ho1.keep k hk ?_)
    rintro (h1 | h1)
    · exact hn (.inr ⟨a, ha, h1⟩)
    · omega

set_option maxHeartbeats 2000000 in
theorem ripe_any {w : World} {lo b n : Nat} {s : EpS} {lv : Nat → Value} (h : EpAt w lo b n s lv) {a : Nat} (ha : a < n) (hn : s.now ≤ 1000000) (hl : (s.lim a).length ≤ 500) :
    Calls Try.prog 15 #[.pointer (some ⟨b, 0, none⟩), .int .i64 a] w fun e w' => ∃ A c v, e = .returned (.slice A (toldOf s.now (s.lim a)).length c) ∧ w'.ownsRow w.heap.size 33 2 (.slice A (toldOf s.now (s.lim a)).length c) (toldOf s.now (s.lim a)).length (refCells (toldOf s.now (s.lim a))) ∧
      EpAt w' lo b n { s with lim := upd s.lim a (keptOf s.now (s.lim a)) } (upd lv a v) ∧ Only (EpOwn b lv) w w' ∧ ∀ k, EpOwn b (upd lv a v) k → EpOwn b lv k := by
  have n16 := h.n16
  have ia : (a : Int) < 16 := by omega
  obtain ⟨A, c, hA⟩ := own_form (h.row a (by omega))
  have hb0 : Below w.heap.size w (w.alloc (.cells #[.pointer (some ⟨b, 0, none⟩)] 25)) := bl_alloc (Below.refl _ _) _
  have hb1 : Below w.heap.size w ((w.alloc (.cells #[.pointer (some ⟨b, 0, none⟩)] 25)).alloc (.cells #[.slice none 0 0] 37)) := bl_alloc hb0 _
  have H0 := Lib.hid (h.below0 hb0)
  have h1 := h.below0 hb1
  have cl := h1.cl (i := a) (by omega)
  have fr := h1.fr (18 + a)
  rw [hA] at cl
  have hX := alloc_old (alloc_new w (.cells #[.pointer (some ⟨b, 0, none⟩)] 25)) (.cells #[.slice none 0 0] 37)
  have hO : ((w.alloc (.cells #[.pointer (some ⟨b, 0, none⟩)] 25)).alloc (.cells #[.slice none 0 0] 37)).heap[w.heap.size + 1]? = some (.cells #[.slice none 0 0] 37) := by
    have := alloc_new (w.alloc (.cells #[.pointer (some ⟨b, 0, none⟩)] 25)) (.cells #[.slice none 0 0] 37)
    rw [show (w.alloc (.cells #[.pointer (some ⟨b, 0, none⟩)] 25)).heap.size = w.heap.size + 1 by simp] at this
    exact this
  have hj : RJ w ((w.alloc (.cells #[.pointer (some ⟨b, 0, none⟩)] 25)).alloc (.cells #[.slice none 0 0] 37)) lo b w.heap.size (w.heap.size + 1) (lv a) (s.lim a) [] :=
    ⟨Only.of_below hb1, hX, h1.row a (by omega), none, 0, hO, rfl, .inl ⟨rfl, rfl⟩⟩
  have hC : RC w lo b n w.heap.size (w.heap.size + 1) a s lv := ⟨h, by omega, Nat.le_refl _, by omega, hn⟩
  have hcX := cell_of_blk hX 0
  have HJ := Lib.hid hj
  have H := Lib.hid h
  clear h h1 hj hX hO
  go_enter Try.func15, Try.ntmps15
  go_wp2_with fail
  refine (is_any H0.out a true (decide_in ha)).mono ?_
  rintro e w' ⟨rfl, rfl⟩
  go_wp2_with fail
  generalize (w.alloc (.cells #[.pointer (some ⟨b, 0, none⟩)] 25)).alloc (.cells #[.slice none 0 0] 37) = w1 at *
  have hjd := HJ.out.below (bl_drew (Below.refl _ w1))
  have hbn : ∀ k, (Value.slice A (s.lim a).length c).ownBlock = some k → k ≠ b := fun k hk he => by
    subst he
    exact H.out.rows_not_b (i := a) (by omega) (by rw [hA]; exact hk)
  have hvo : ∀ K, (Value.slice A K c).ownBlock = (lv a).ownBlock := fun K => by
    rw [hA]
    cases A <;> rfl
  have hbl := block_lt H.out.blk
  have HVO := Lib.hid hvo
  have HBN := Lib.hid hbn
  clear hvo hbn
  go_region_law (first
    | (go_simp; go_at_call 30; refine (delete_any hC hjd hA rfl hl).mono ?_; rintro e w2 ⟨rfl, hj2⟩; have cX2 := cell_of_blk hj2.hX 0; have hb2 := hj2.only.block H.out.blk (by rintro (hk | hk); exact HBN.out _ (by rw [← hk]; cases A <;> rfl) rfl; omega); have cb2 := (cell_of_blk hb2 (18 + a)).trans (epCells_lim n s lv (by omega)); have fb2 := free_of_blk hb2 (18 + a); have hfin := H.out.ripened (a := a) (by omega) hj2 (HVO.out _); have cX3 := cell_of_blk (setCell_other (b' := b) (i := 18 + a) hj2.hX (by omega) (.slice A (keptOf s.now (s.lim a)).length c)) 0))
  all_goals
    obtain ⟨A', c', hO2, hr2⟩ := hj2.out
    have hO3 := cell_of_blk (setCell_other (b' := b) (i := 18 + a) hO2 (by omega) (.slice A (keptOf s.now (s.lim a)).length c)) 0
    have hr3 := ownsRow_kept (S := fun k => k = b) hr2 ((Only.refl (fun k => k = b) w2).setCell ⟨b, 18 + a, none⟩ (.slice A (keptOf s.now (s.lim a)).length c) (.inl rfl)) (by rintro k rfl hk; have := own_block hr2 hk; omega)
    have HR3 := Lib.hid hr3
    have HFIN := Lib.hid hfin
    clear hr2 hO2 hr3 hfin hj2 cX2 hb2 cb2 fb2 cX3
    go_wp2_with fail
    go_ret
    exact ⟨A', c', _, rfl, HR3.out, HFIN.out.1, HFIN.out.2.1, HFIN.out.2.2⟩
end Go.Proofs.Ytpklpomajioneaa
