/- Chapter 12: the document's epochs: Ripe. -/
import Derived.Test.YtpklpomajioneaaMoG
namespace Go.Proofs.Ytpklpomajioneaa
open Go.RowKit
set_option linter.unusedVariables false
set_option linter.unusedSimpArgs false

/-- While the document's Ripe goes on: what is told, what is left. -/
structure MR (w W : World) (lo b R n c : Nat) (s : EpS) (mv : Nat → Value) (vo vl : Value) (T : List RefV) (K : List OldV) : Prop where
  m0 : MoAt w lo b R n c s mv
  be : Below w.heap.size w W
  out : W.ownsRow w.heap.size 33 2 vo T.length (refCells T)
  left : W.ownsRow w.heap.size 72 3 vl K.length (oldCells K)
theorem MR.below {w W W' : World} {lo b R n c : Nat} {s : EpS} {mv : Nat → Value} {vo vl : Value} {T : List RefV} {K : List OldV} (h : MR w W lo b R n c s mv vo vl T K) (hb : Below W.heap.size W W') : MR w W' lo b R n c s mv vo vl T K :=
  ⟨h.m0, bl_then h.be hb, ownsRow_kept h.out (Only.of_below (S := fun _ => False) hb) (fun _ h => h.elim), ownsRow_kept h.left (Only.of_below (S := fun _ => False) hb) (fun _ h => h.elim)⟩
theorem MR.mo {w W : World} {lo b R n c : Nat} {s : EpS} {mv : Nat → Value} {vo vl : Value} {T : List RefV} {K : List OldV} (h : MR w W lo b R n c s mv vo vl T K) : MoAt W lo b R n c s mv := h.m0.below0 h.be
theorem MR.told {w W W' : World} {lo b R n c : Nat} {s : EpS} {mv : Nat → Value} {vo vl : Value} {T : List RefV} {K : List OldV} (h : MR w W lo b R n c s mv vo vl T K) (r : RefV) {v' : Value}
    (hown : W'.ownsRow w.heap.size 33 2 v' (T.length + 1) (refCells T ++ r.cells)) (hgr : W.grownBy W' vo.ownBlock) : MR w W' lo b R n c s mv v' vl (T ++ [r]) K := by
  have ho : Only (fun k => vo.ownBlock = some k) W W' := only_grown (Only.refl _ _) hgr (fun k hk => .inl hk)
  refine ⟨h.m0, bl_only h.be ho (fun k hk => own_block h.out hk), by rw [refCells_append, List.length_append]; exact hown, ownsRow_kept h.left ho (fun k hk hk2 => ?_)⟩
  obtain ⟨_, hr⟩ := h.left
  rcases hr with ⟨hv, _⟩ | ⟨g, cap, cur, rfl, _, hg, _⟩
  · rw [hv] at hk2; cases hk2
  · have hgk : g = k := by simpa [Value.ownBlock] using hk2
    subst hgk
    exact absurd (own_type h.out hk hg) (by decide)
theorem MR.kept {w W W' : World} {lo b R n c : Nat} {s : EpS} {mv : Nat → Value} {vo vl : Value} {T : List RefV} {K : List OldV} (h : MR w W lo b R n c s mv vo vl T K) (o : OldV) {v' : Value}
    (hown : W'.ownsRow w.heap.size 72 3 v' (K.length + 1) (oldCells K ++ o.cells)) (hgr : W.grownBy W' vl.ownBlock) : MR w W' lo b R n c s mv vo v' T (K ++ [o]) := by
  have ho : Only (fun k => vl.ownBlock = some k) W W' := only_grown (Only.refl _ _) hgr (fun k hk => .inl hk)
  refine ⟨h.m0, bl_only h.be ho (fun k hk => own_block h.left hk), ownsRow_kept h.out ho (fun k hk hk2 => ?_), by rw [oldCells_append, List.length_append]; exact hown⟩
  obtain ⟨_, hr⟩ := h.out
  rcases hr with ⟨hv, _⟩ | ⟨g, cap, cur, rfl, _, hg, _⟩
  · rw [hv] at hk2; cases hk2
  · have hgk : g = k := by simpa [Value.ownBlock] using hk2
    subst hgk
    exact absurd (own_type h.left hk hg) (by decide)
theorem own_old {w : World} {lo : Nat} {A : Option Addr} {n c : Nat} {l : List OldV} (h : w.ownsRow lo 72 3 (.slice A n c) n (oldCells l)) {i : Nat} (hi : i < n) :
    ∃ g o, A = some ⟨g, 0, none⟩ ∧ l[i]? = some o ∧ w.cell? ⟨g, i * 3, none⟩ = some (.int .i64 o.slot) ∧ w.cell? ⟨g, i * 3 + 1, none⟩ = some (.int .i64 o.gen) ∧ w.cell? ⟨g, i * 3 + 2, none⟩ = some (.int .i64 o.ep) := by
  have hl : l.length = n := by have := h.1; rw [oldCells_length] at this; omega
  obtain ⟨g, rfl, _, _, hg, hc⟩ := own_some h (by omega)
  have hli : i < l.length := by omega
  have h0 := oldCells_at l i hli 0 (by omega)
  have h1 := oldCells_at l i hli 1 (by omega)
  have h2 := oldCells_at l i hli 2 (by omega)
  rw [List.getElem?_eq_getElem hli] at h0 h1 h2 ⊢
  exact ⟨g, _, rfl, rfl, hc _ _ h0, hc _ _ h1, hc _ _ h2⟩
theorem mo_ripe_bad {w : World} {lo b R n c : Nat} {s : EpS} {mv : Nat → Value} (h : MoAt w lo b R n c s mv) (a : Int) (hbad : ¬ (0 ≤ a ∧ a < n)) :
    Calls Try.prog 25 #[.pointer (some ⟨b, 0, none⟩), .int .i64 a] w fun e w' => e = .returned (.slice none 0 0) ∧ w = w' := by
  have H := Lib.hid h
  clear h
  go_enter Try.func25, Try.ntmps25
  go_wp2_with fail
  refine (mo_is H.out a false (decide_out hbad)).mono ?_
  rintro e w' ⟨rfl, rfl⟩
  go_wp2_with fail
  go_ret
  exact ⟨rfl, rfl⟩
theorem mo_retire_bad {w : World} {lo b R n c : Nat} {s : EpS} {mv : Nat → Value} (h : MoAt w lo b R n c s mv) (a : Int) (hbad : ¬ (0 ≤ a ∧ a < n)) (sl gn : Int) :
    Calls Try.prog 24 #[.pointer (some ⟨b, 0, none⟩), .int .i64 a, .agg #[.int .i64 sl, .int .i64 gn]] w fun e w' => e = .returned (.bool false) ∧ Below w.heap.size w w' := by
  have H0 := Lib.hid (h.below0 (bl_alloc (Below.refl _ _) (.cells #[.int .i64 sl, .int .i64 gn] 33)))
  clear h
  go_enter Try.func24, Try.ntmps24
  go_wp2_with fail
  refine (mo_is H0.out a false (decide_out hbad)).mono ?_
  rintro e w' ⟨rfl, rfl⟩
  go_wp2_with fail
  go_ret
  exact ⟨rfl, bl_alloc (Below.refl _ _) _⟩
set_option maxHeartbeats 4000000 in
theorem mo_ripe {w : World} {lo b R n c : Nat} {s : EpS} {mv : Nat → Value} (h : MoAt w lo b R n c s mv) {a : Nat} (hk : a < n) (hlo : lo ≤ w.heap.size) (hn : s.now ≤ 1000000) (hl : (s.lim a).length ≤ 500) :
    Calls Try.prog 25 #[.pointer (some ⟨b, 0, none⟩), .int .i64 a] w fun e w' => ∃ A c2 v, e = .returned (.slice A (toldOf s.now (s.lim a)).length c2) ∧ w'.ownsRow w.heap.size 33 2 (.slice A (toldOf s.now (s.lim a)).length c2) (toldOf s.now (s.lim a)).length (refCells (toldOf s.now (s.lim a))) ∧
      MoAt w' lo b R n c { s with lim := upd s.lim a (keptOf s.now (s.lim a)) } (upd mv a v) ∧ Only (MoOwn b R n mv) w w' := by
  have ik : (a : Int) < n := by omega
  obtain ⟨A, c', hA⟩ := own_form (h.row a hk)
  obtain ⟨L, hL⟩ : ∃ L, s.lim a = L := ⟨_, rfl⟩
  obtain ⟨m, hm⟩ : ∃ m, L.length = m := ⟨_, rfl⟩
  rw [hL] at hl ⊢
  rw [hL, hm] at hA
  have H := Lib.hid h
  have HA := Lib.hid hA
  have HL := Lib.hid hL
  have HM := Lib.hid hm
  have hm500 : m ≤ 500 := by omega
  clear h hA hL hm hl
  obtain ⟨i0, hi, hz0, hz1, hz2⟩ := info_parts infoROld
  obtain ⟨j0, ji, jz0, jz1, jz2⟩ := info_parts infoRef
  have s1 : IntKind.i64.wrap ((s.now : Int) - 2) = (s.now : Int) - 2 := IntWalk.i64_in _ (by omega)
  have S1 := Lib.hid s1
  clear s1
  go_enter Try.func25, Try.ntmps25
  go_wp2_with fail
  refine (mo_is H.out a true (decide_in hk)).mono ?_
  rintro e w' ⟨rfl, rfl⟩
  go_wp2_with fail
  go_loopw [6, 7, 8] (fun vo vl i wr => ∃ (I : Nat) (T : List RefV) (K : List OldV), I ≤ m ∧ i = .int .i64 I ∧ toldOf s.now (L.take I) = T ∧ keptOf s.now (L.take I) = K ∧ MR w wr lo b R n c s mv vo vl T K) (fun _ _ i _ => m - (intOf i).toNat)
  case atStart => exact ⟨0, [], [], Nat.zero_le _, rfl, rfl, rfl, H.out, Below.refl _ _, ⟨rfl, .inl ⟨rfl, rfl⟩⟩, ⟨rfl, .inl ⟨rfl, rfl⟩⟩⟩
  case round =>
    obtain ⟨I, T, K, hI, rfl, hT, hK, hr⟩ := hrel
    have hTl : T.length ≤ 500 := by rw [← hT]; exact Nat.le_trans (told_length _ _) (by rw [List.length_take]; omega)
    have hKl : K.length ≤ 500 := by rw [← hK]; exact Nat.le_trans (List.length_filter_le _ _) (by rw [List.length_take]; omega)
    have c1 := hr.mo.c1
    have cl := hr.mo.cl hk
    rw [HA.out] at cl
    by_cases hlt : I < m
    · have iI : (I : Int) < m := by omega
      have hrowA := hr.mo.row a hk
      rw [HA.out, HL.out, HM.out] at hrowA
      obtain ⟨g, o, rfl, ho, o0, o1, o2⟩ := own_old hrowA hlt
      have hts := told_succ s.now ho
      have hks := kept_succ s.now ho
      rw [hT] at hts
      rw [hK] at hks
      obtain ⟨sl, gn, ep⟩ := o
      dsimp only at o0 o1 o2
      obtain ⟨Ao, co, rfl⟩ := own_form hr.out
      obtain ⟨Al, cl2, rfl⟩ := own_form hr.left
      have HTS := Lib.hid hts
      have HKS := Lib.hid hks
      have hrb := hr.below (bl_alloc (Below.refl _ _) (.cells #[.int .i64 sl, .int .i64 gn, .int .i64 ep] 72))
      have hbx := alloc_new wr (.cells #[.int .i64 sl, .int .i64 gn, .int .i64 ep] 72)
      have x0 := cell_of_blk hbx 0
      have x1 := cell_of_blk hbx 1
      have x2 := cell_of_blk hbx 2
      have n0 := hrb.mo.c0
      have hrq : ∀ q, MR w ((wr.alloc (.cells #[.int .i64 sl, .int .i64 gn, .int .i64 ep] 72)).drewN q) lo b R n c s mv _ _ T K := fun q => hrb.below (bl_drewN (Below.refl _ _) q)
      have HRQ := Lib.hid hrq
      have s2 := S1.out
      clear hT hK hrowA hts hks hr hbx hrq hrb
      by_cases hrp : ep ≤ (s.now : Int) - 2
      · have hB : ripeB s.now ⟨sl, gn, ep⟩ = true := decide_eq_true hrp
        have hT1 := HTS.out
        have hK1 := HKS.out
        rw [if_pos hB] at hT1 hK1
        rw [List.append_nil] at hK1
        have HT1 := Lib.hid hT1
        have HK1 := Lib.hid hK1
        clear hT1 hK1 hB
        go_wp2_with fail
        go_quiet (fail)
        have hq := HRQ.out nq
        have y0 : ((wr.alloc (.cells #[.int .i64 sl, .int .i64 gn, .int .i64 ep] 72)).drewN nq).cell? ⟨wr.heap.size, 0, none⟩ = some (.int .i64 sl) := x0
        have y1 : ((wr.alloc (.cells #[.int .i64 sl, .int .i64 gn, .int .i64 ep] 72)).drewN nq).cell? ⟨wr.heap.size, 1, none⟩ = some (.int .i64 gn) := x1
        generalize (wr.alloc (.cells #[.int .i64 sl, .int .i64 gn, .int .i64 ep] 72)).drewN nq = W at *
        have hq2 := hq.below (bl_alloc (Below.refl _ _) (.cells #[.int .i64 sl, .int .i64 gn] 33))
        have hro := hq2.out
        have hn0 := alloc_new W (.cells #[.int .i64 sl, .int .i64 gn] 33)
        have hz9 : w.heap.size ≤ (W.alloc (.cells #[.int .i64 sl, .int .i64 gn] 33)).heap.size := hq2.be.size
        have HQ2 := Lib.hid hq2
        clear hq hq2 x0 x1 x2 n0
        go_wp2_with (at_builtin; refine wpList_append_lies _ rfl (.tmp 47) (.tmp 50) 37 rfl w.heap.size 33 j0 _ 2 16 Try.underlying37 ji jz0 jz1 jz2 rfl (by decide) (.slice Ao T.length co) T.length (refCells T) rfl hro ⟨W.heap.size, 0, none⟩ 1 1 [.int .i64 sl, .int .i64 gn] rfl rfl (World.news_of_block (cs := #[.int .i64 sl, .int .i64 gn]) (t := 33) (fr := (0, 0)) hn0) (by simp [Value.oneCell']) (by decide) (by simp only [maxLen]; omega) (by omega) hz9 _ rfl ?_; intro g8 cap8 w8 hown8 hgr8 hat8 _; have hq8 := HQ2.out.told ⟨sl, gn⟩ hown8 hgr8)
        go_roundw
        case rel => exact ⟨I + 1, _, _, hlt, by simp, HT1.out, HK1.out, hq8⟩
        case measure => simp [intOf]; omega
      · have hB : ripeB s.now ⟨sl, gn, ep⟩ = false := decide_eq_false hrp
        have hT1 := HTS.out
        have hK1 := HKS.out
        rw [if_neg (by rw [hB]; decide)] at hT1 hK1
        have HT1 := Lib.hid hT1
        have HK1 := Lib.hid hK1
        clear hT1 hK1 hB
        go_wp2_with fail
        go_quiet (fail)
        have hq := HRQ.out nq
        have y0 : ((wr.alloc (.cells #[.int .i64 sl, .int .i64 gn, .int .i64 ep] 72)).drewN nq).cell? ⟨wr.heap.size, 0, none⟩ = some (.int .i64 sl) := x0
        have y1 : ((wr.alloc (.cells #[.int .i64 sl, .int .i64 gn, .int .i64 ep] 72)).drewN nq).cell? ⟨wr.heap.size, 1, none⟩ = some (.int .i64 gn) := x1
        have y2 : ((wr.alloc (.cells #[.int .i64 sl, .int .i64 gn, .int .i64 ep] 72)).drewN nq).cell? ⟨wr.heap.size, 2, none⟩ = some (.int .i64 ep) := x2
        generalize (wr.alloc (.cells #[.int .i64 sl, .int .i64 gn, .int .i64 ep] 72)).drewN nq = W at *
        have hq2 := hq.below (bl_alloc (Below.refl _ _) (.cells #[.int .i64 sl, .int .i64 gn, .int .i64 ep] 72))
        have hro := hq2.left
        have hn0 := alloc_new W (.cells #[.int .i64 sl, .int .i64 gn, .int .i64 ep] 72)
        have hz9 : w.heap.size ≤ (W.alloc (.cells #[.int .i64 sl, .int .i64 gn, .int .i64 ep] 72)).heap.size := hq2.be.size
        have HQ2 := Lib.hid hq2
        clear hq hq2 x0 x1 x2 n0
        go_wp2_with (at_builtin; refine wpList_append_lies _ rfl (.tmp 52) (.tmp 54) 68 rfl w.heap.size 72 i0 _ 3 24 Try.underlying68 hi hz0 hz1 hz2 rfl (by decide) (.slice Al K.length cl2) K.length (oldCells K) rfl hro ⟨W.heap.size, 0, none⟩ 1 1 [.int .i64 sl, .int .i64 gn, .int .i64 ep] rfl rfl (World.news_of_block (cs := #[.int .i64 sl, .int .i64 gn, .int .i64 ep]) (t := 72) (fr := (0, 0)) hn0) (by simp [Value.oneCell']) (by decide) (by simp only [maxLen]; omega) (by omega) hz9 _ rfl ?_; intro g8 cap8 w8 hown8 hgr8 hat8 _; have hq8 := HQ2.out.kept ⟨sl, gn, ep⟩ hown8 hgr8)
        go_roundw
        case rel => exact ⟨I + 1, _, _, hlt, by simp, HT1.out, HK1.out, hq8⟩
        case measure => simp [intOf]; omega
    · obtain rfl : I = m := by omega
      have iI : ¬ (I : Int) < I := by omega
      rw [List.take_of_length_le (Nat.le_of_eq HM.out)] at hT hK
      obtain ⟨Ao, co, rfl⟩ := own_form hr.out
      obtain ⟨Al, cl2, rfl⟩ := own_form hr.left
      have fr := hr.mo.fr (a * 2 + 1)
      have hfin := hr.mo.set_lim (w1 := wr) (row := none) hk (l := K) (v := .slice Al K.length cl2) (.inl rfl) ⟨rfl, rfl, rfl, Nat.le_refl _, fun _ _ _ => rfl⟩ (ownsRow_base hr.left hlo) (fun k hk2 => .inr (fun i hi hk3 => by
        have h1 := own_block hr.left hk2
        have h2 := hr.m0.own_lt (.inr (.inr ⟨i, hi, hk3⟩))
        omega))
      have hbe := hr.be
      have hout := hr.out
      have HF := Lib.hid hfin
      have HT := Lib.hid hT
      have HK := Lib.hid hK
      have HO := Lib.hid hout
      have HE := Lib.hid hr
      clear hfin hT hK hout hr
      go_wp2_with fail
      go_ret
      rw [HT.out, HK.out]
      refine ⟨Ao, co, rfl, ownsRow_kept HO.out ((Only.refl (fun k => k = R) wr).setCell _ _ (.inl rfl)) (fun k hk2 hk3 => ?_), ⟨_, HF.out.1⟩, (Only.of_below hbe).trans HF.out.2⟩
      have h1 := own_block HO.out hk3
      have h2 := HE.out.m0.own_lt (.inr (.inl hk2))
      omega
end Go.Proofs.Ytpklpomajioneaa
