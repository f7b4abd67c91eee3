/- Chapter 6: TupleOrdered. -/
import Derived.Test.YtmiijnemacgbiaaTupP
import Derived.Laws.Bits128
namespace Go.Proofs.Ytmiijnemacgbiaa
open Go.RowKit
set_option linter.unusedVariables false
set_option linter.unusedSimpArgs false

theorem and31 (n : Int) : bits .and .i64 n 31 = n % 32 := by
  have h3 : (BitVec.ofInt 64 31).toNat = 2 ^ 5 - 1 := by decide
  have key : (BitVec.ofInt 64 n &&& BitVec.ofInt 64 31).toNat = (n % ((2 ^ 64 : Nat) : Int)).toNat % 2 ^ 5 := by
    rw [BitVec.toNat_and, BitVec.toNat_ofInt, h3, Nat.and_two_pow_sub_one_eq_mod]
  show IntKind.i64.wrap ((BitVec.ofInt 64 n &&& BitVec.ofInt 64 31).toNat : Nat) = n % 32
  rw [key, IntKind.wrap_i64]
  omega
theorem and7 (n : Int) : bits .and .i64 n 7 = n % 8 := by
  have h3 : (BitVec.ofInt 64 7).toNat = 2 ^ 3 - 1 := by decide
  have key : (BitVec.ofInt 64 n &&& BitVec.ofInt 64 7).toNat = (n % ((2 ^ 64 : Nat) : Int)).toNat % 2 ^ 3 := by
    rw [BitVec.toNat_and, BitVec.toNat_ofInt, h3, Nat.and_two_pow_sub_one_eq_mod]
  show IntKind.i64.wrap ((BitVec.ofInt 64 n &&& BitVec.ofInt 64 7).toNat : Nat) = n % 8
  rw [key, IntKind.wrap_i64]
  omega
/-- The number that a row has come to. -/
def accN : Int → List Int → Int
  | n, [] => n
  | n, z :: zs => accN (n + z % 32 * 8) zs
theorem accL_snoc (i : Nat) : ∀ (l : List Int) (n z : Int), accL i n (l ++ [z]) = accL i n l ++ [accN n (l ++ [z]) + i % 8] := by
  intro l
  induction l with
  | nil => intro n z; rfl
  | cons y ys ih => intro n z; simp only [List.cons_append, accL, accN]; rw [ih]
theorem accN_snoc : ∀ (l : List Int) (n z : Int), accN n (l ++ [z]) = accN n l + z % 32 * 8 := by
  intro l
  induction l with
  | nil => intro n z; rfl
  | cons y ys ih => intro n z; simp only [List.cons_append, accN]; rw [ih]
theorem accN_bound : ∀ (l : List Int) (n : Int), n ≤ accN n l ∧ accN n l ≤ n + l.length * 248 := by
  intro l
  induction l with
  | nil => intro n; simp [accN]
  | cons y ys ih =>
    intro n
    have h1 : 0 ≤ y % 32 := Int.emod_nonneg _ (by decide)
    have h2 : y % 32 < 32 := Int.emod_lt_of_pos _ (by decide)
    have := ih (n + y % 32 * 8)
    simp only [accN, List.length_cons]
    omega
def rowI (xs : List (List Int)) (i : Nat) : List Int := accL i 0 ((xs.getD i []).take 4)
def doneI (xs : List (List Int)) (I : Nat) : List (List Int) := (List.range I).map (rowI xs)
theorem doneI_succ (xs : List (List Int)) (I : Nat) : doneI xs (I + 1) = doneI xs I ++ [rowI xs I] := by simp [doneI, List.range_succ]
theorem doneI_length (xs : List (List Int)) (I : Nat) : (doneI xs I).length = I := by simp [doneI]
theorem doneI_rising (xs : List (List Int)) (I : Nat) : Rising (doneI xs I) := by
  intro l hl
  obtain ⟨i, _, rfl⟩ := List.mem_map.1 hl
  exact (accL_rising i _ 0).2
theorem sumL_snoc (l : List (List Int)) (r : List Int) : sumL (l ++ [r]) = sumL l + r.length := by simp [sumL]
theorem each_of_own {w : World} {lo : Nat} {a : Option Addr} {n c : Nat} {zs : List Int} (h : w.ownsRow lo 3 1 (.slice a n c) n (intCells zs)) (hn : n ≤ 1000000) (hw : ∀ z ∈ zs, -9223372036854775808 ≤ z ∧ z ≤ 9223372036854775807) : n ≤ c ∧ c ≤ maxLen ∧ (a = none → n = 0 ∧ c = 0) ∧ IntsAt w a n zs := by
  have hi := IntsAt.of_own h hn hw
  rcases h.2 with ⟨hv, h0⟩ | ⟨g, cap, cur, hv, _, _, h1, h2, _⟩
  · injection hv with e1 e2 e3
    subst e1 e2 e3
    exact ⟨Nat.le_refl _, by decide, fun _ => ⟨rfl, rfl⟩, hi⟩
  · injection hv with e1 e2 e3
    subst e1 e3
    exact ⟨h1, h2, fun e => (by cases e), hi⟩
/-- The rows that the law has built. -/
structure OW (lo I : Nat) (x0 : List (List Int)) (wr : World) (v : Value) (qs : List RowV) : Prop where
  nums : nums qs = doneI x0 I
  row : wr.ownsRow lo 26 1 v I (rowCells qs)
  each : ∀ r ∈ qs, wr.ownsRow lo 3 1 (.slice r.a r.n r.c) r.n (intCells r.zs)
theorem OW.below {lo I : Nat} {x0 : List (List Int)} {wr w2 : World} {v : Value} {qs : List RowV} (h : OW lo I x0 wr v qs) (hb : Below wr.heap.size wr w2) : OW lo I x0 w2 v qs :=
  ⟨h.nums, ownsRow_kept h.row (Only.of_below (S := fun _ => False) hb) (fun _ h => h.elim), fun r hr => ownsRow_kept (h.each r hr) (Only.of_below (S := fun _ => False) hb) (fun _ h => h.elim)⟩
theorem OW.push {lo I : Nat} {x0 : List (List Int)} {wr w2 : World} {v v' : Value} {qs : List RowV} {q : RowV} (h : OW lo I x0 wr v qs) (hq : wr.ownsRow lo 3 1 (.slice q.a q.n q.c) q.n (intCells q.zs)) (hz : q.zs = rowI x0 I)
    (hown : w2.ownsRow lo 26 1 v' (I + 1) (rowCells qs ++ [.slice q.a q.n q.c])) (hgr : wr.grownBy w2 v.ownBlock) : OW lo (I + 1) x0 w2 v' (qs ++ [q]) := by
  have ho : Only (fun k => v.ownBlock = some k) wr w2 := only_grown (Only.refl _ _) hgr (fun k hk => .inl hk)
  have keep : ∀ {r : RowV}, wr.ownsRow lo 3 1 (.slice r.a r.n r.c) r.n (intCells r.zs) → w2.ownsRow lo 3 1 (.slice r.a r.n r.c) r.n (intCells r.zs) := fun hr => ownsRow_kept hr ho (fun k hk hk2 => by
    rcases hr.2 with ⟨hv, _⟩ | ⟨g, cap, cur, hv, _, hg, _⟩
    · rw [hv] at hk2; cases hk2
    · rw [hv] at hk2
      have hgk : g = k := by simpa [Value.ownBlock] using hk2
      subst hgk
      have ht := own_type h.row hk hg
      exact absurd ht (by decide))
  refine ⟨?_, by rw [rowCells_append]; exact hown, fun r hr => ?_⟩
  · rw [doneI_succ, ← h.nums, ← hz]; simp [Proofs.Ytmiijnemacgbiaa.nums]
  · rcases List.mem_append.1 hr with hr | hr
    · exact keep (h.each r hr)
    · rw [List.mem_singleton.1 hr]; exact keep hq
theorem OW.rows {lo I c : Nat} {x0 : List (List Int)} {wr : World} {A : Option Addr} {qs : List RowV} (h : OW lo I x0 wr (.slice A I c) qs) (hI : I ≤ 12) : RowsAt wr A I qs := by
  refine RowsAt.of_own h.row (by omega) fun r hr => ?_
  have hmem : r.zs ∈ doneI x0 I := by rw [← h.nums]; exact List.mem_map_of_mem hr
  obtain ⟨i, _, hi⟩ := List.mem_map.1 hmem
  have hlen : ((x0.getD i []).take 4).length ≤ 4 := by rw [List.length_take]; omega
  have hl : r.zs.length ≤ 4 := by rw [← hi, rowI, accL_length]; exact hlen
  have hrn : r.n = r.zs.length := by have := (h.each r hr).1; rw [intCells, List.length_map] at this; omega
  refine each_of_own (h.each r hr) (by omega) fun z hz => ?_
  rw [← hi] at hz
  have := accL_bound i _ 0 (Int.le_refl _) z hz
  omega
/-- How much of each row is gone, as cells. -/
def fCells (n : Nat) (f : Nat → Nat) : List Value := (List.range n).map fun k => .int .i64 (f k)
theorem fCells_at (n : Nat) (f : Nat → Nat) {k : Nat} (h : k < n) : (fCells n f)[k]? = some (.int .i64 (f k)) := by simp [fCells, h]
theorem fCells_set (n : Nat) (f : Nat → Nat) (B v : Nat) : (fCells n f).set B (.int .i64 v) = fCells n (updN f B v) := by
  refine List.ext_getElem (by simp [fCells]) fun k h1 h2 => ?_
  rw [List.getElem_set]
  by_cases e : B = k
  · subst e; simp [fCells, updN]
  · rw [if_neg e]; simp [fCells, updN, Ne.symm e]
theorem make_ints (n : Nat) (hn : n ≤ 1000) (W : World) : (Instr.makeSlice 26 (.int .i64 (n : Int)) (.int .i64 (n : Int))).run Try.prog W = .ok (.slice (some ⟨W.heap.size, 0, none⟩) n n) (W.alloc (.cells (fCells n fun _ => 0).toArray 3 (0, 0))) := by
  obtain ⟨j0, ji, jz0, jz1, jz2⟩ := info_parts infoInt
  have := run_make (P := Try.prog) W 26 3 j0 _ Try.underlying26 ji jz0 .i64 .i64 n n (by omega) (by omega) (by rw [jz2]; omega) (by omega)
  rw [jz1] at this
  rw [this]
  congr 2
  simp [fCells, madeCells, Value.cells]
  refine Array.ext (by simp) fun i h1 h2 => ?_
  simp [Nat.mod_one]
theorem OW.grown {I : Nat} {x0 : List (List Int)} {w0 wr w2 : World} {v : Value} {qs : List RowV} (h : OW w0.heap.size I x0 wr v qs) (hb : Below w0.heap.size w0 wr) (hgr : wr.grownBy w2 v.ownBlock) : Below w0.heap.size w0 w2 :=
  bl_only hb (only_grown (S := fun k => v.ownBlock = some k) (Only.refl _ _) hgr (fun k hk => .inl hk)) (fun k hk => own_block h.row hk)
set_option maxRecDepth 100000 in
set_option maxHeartbeats 8000000 in
theorem ordered_law (a0 : Option Addr) (n0 c0 : Nat) (x0 : List (List Int)) (w : World) (hr0 : RowAt (kSlice (kInt .i64) 8) 24 w a0 n0 x0) :
    Calls Try.prog 4 #[.slice a0 n0 c0] w fun e w' => e = .returned (.bool true) ∧ Below w.heap.size w w' := by
  obtain ⟨r0, hR0, hnum⟩ := hr0.rows
  have hsm := hR0.small
  have HR0 := Lib.hid hR0
  have HNUM := Lib.hid hnum
  clear hr0 hR0 hnum
  obtain ⟨i0, hi, hz0, hz1, hz2⟩ := info_parts infoRow
  obtain ⟨j0, ji, jz0, jz1, jz2⟩ := info_parts infoInt
  have ha31 := and31
  have ha7 := and7
  go_enter Try.func4, Try.ntmps4
  go_wp2_with fail
  refine (awake_any _).mono ?_
  rintro e w1 ⟨rfl, hb1⟩
  have HB1 := Lib.hid hb1
  clear hb1
  go_wp2_with fail
  have hlo1 : w1.heap.size ≤ w1.heap.size := Nat.le_refl _
  go_loopw [4, 5, 6] (fun v m i wr => ∃ (I : Nat) (qs : List RowV), I ≤ n0 ∧ I ≤ 12 ∧ i = .int .i64 I ∧ m = .int .i64 (sumL (doneI x0 I)) ∧ sumL (doneI x0 I) ≤ I * 4 ∧ OW w1.heap.size I x0 wr v qs ∧ Below w1.heap.size w1 wr) (fun _ _ i _ => n0 - (intOf i).toNat)
  case atStart => exact ⟨0, [], Nat.zero_le _, by decide, rfl, rfl, Nat.le_refl _, ⟨rfl, ⟨rfl, .inl ⟨rfl, rfl⟩⟩, fun r hr => (by cases hr)⟩, Below.refl _ _⟩
  case round =>
    obtain ⟨I, qs, hI, hI2, rfl, rfl, hsum, how, hb⟩ := hrel
    by_cases hlt : I < n0 ∧ I < 12
    · obtain ⟨h1, h2⟩ := hlt
      have d12 : decide ((I : Int) < 12) = true := decide_eq_true (by omega)
      have iI : (I : Int) < n0 := by omega
      have hbw := bl_then HB1.out hb
      obtain ⟨g, off, rfl, hg, hc⟩ := (HR0.out.below hbw).cells (by omega)
      have hri : I < r0.length := by rw [HR0.out.len]; exact h1
      obtain ⟨r, hr1⟩ : ∃ r, r0[I]? = some r := ⟨_, List.getElem?_eq_getElem hri⟩
      have c1 := hc I r hr1
      have hxr : x0.getD I [] = r.zs := by rw [← HNUM.out]; exact nums_getD hr1
      obtain ⟨_, _, _, r4⟩ := HR0.out.each r (List.mem_of_getElem? hr1)
      have r4 := r4.below hbw
      have hln := r4.len
      have hwf := r4.wf
      have hrn := r4.small
      obtain ⟨wo, hwo⟩ : ∃ wo, wo = wr := ⟨_, rfl⟩
      subst hwo
      obtain ⟨ra, rn, rc, rz⟩ := r
      dsimp only at c1 hxr r4 hln hwf hrn
      have HC1 := Lib.hid c1
      have HR4 := Lib.hid r4
      have HXR := Lib.hid hxr
      have HLN := Lib.hid hln
      have HOW := Lib.hid how
      have HGC := Lib.hid (show ∀ W, Below wo.heap.size wo W → W.cell? ⟨g, off + I, none⟩ = some (.slice ra rn rc) from fun W hW => (hW.cell (p := ⟨g, off + I, none⟩) hg).trans c1)
      clear hc hr1 hri c1 r4 hxr hln hwf how
      go_wp2_with fail
      go_loopw [7, 8, 9] (fun rv nv k W => ∃ K : Nat, K ≤ rn ∧ K ≤ 4 ∧ k = .int .i64 K ∧ nv = .int .i64 (accN 0 (rz.take K)) ∧ W.ownsRow wo.heap.size 3 1 rv K (intCells (accL I 0 (rz.take K))) ∧ Below wo.heap.size wo W) (fun _ _ k _ => rn - (intOf k).toNat)
      case atStart => exact ⟨0, Nat.zero_le _, by decide, rfl, rfl, ⟨rfl, .inl ⟨rfl, rfl⟩⟩, Below.refl _ _⟩
      case round =>
        obtain ⟨K, hK, hK4, rfl, rfl, hrow, hbr⟩ := hrel
        have c1 := HGC.out _ hbr
        by_cases hk : K < rn ∧ K < 4
        · obtain ⟨k1, k2⟩ := hk
          have d4 : decide ((K : Int) < 4) = true := decide_eq_true (by omega)
          have iK : (K : Int) < rn := by omega
          obtain ⟨gz, oz, rfl, hgz, hcz⟩ := (HR4.out.below hbr).cells (by omega)
          have cz := hcz K k1
          have htk : rz.take (K + 1) = rz.take K ++ [rz.getD K 0] := by
            rw [List.take_add_one, List.getD_eq_getElem?_getD, List.getElem?_eq_getElem (by rw [HLN.out]; exact k1)]; rfl
          have hz1' : 0 ≤ rz.getD K 0 % 32 := Int.emod_nonneg _ (by decide)
          have hz2' : rz.getD K 0 % 32 < 32 := Int.emod_lt_of_pos _ (by decide)
          have hab := accN_bound (rz.take K) 0
          have hal : (rz.take K).length = K := by rw [List.length_take, HLN.out]; omega
          rw [hal] at hab
          have hs1 := accN_snoc (rz.take K) 0 (rz.getD K 0)
          have hs2 := accL_snoc I (rz.take K) 0 (rz.getD K 0)
          rw [← htk] at hs1 hs2
          have HTA := Lib.hid hs1
          have HTL := Lib.hid hs2
          generalize rz.getD K 0 = z at *
          obtain ⟨N, hN⟩ : ∃ N, accN 0 (rz.take K) = N := ⟨_, rfl⟩
          rw [hN] at hab hs1 ⊢
          have HNN := Lib.hid hN
          obtain ⟨Ar, cr, rfl⟩ := own_form hrow
          have hrowa := hrow.alloc (.cells #[.int .i64 (N + z % 32 * 8 + (I : Int) % 8)] 3)
          have hbra := bl_alloc hbr (.cells #[.int .i64 (N + z % 32 * 8 + (I : Int) % 8)] 3)
          have hza := hbra.size
          have hna := alloc_new wr (.cells #[.int .i64 (N + z % 32 * 8 + (I : Int) % 8)] 3)
          have hi8 : 0 ≤ (I : Int) % 8 := by omega
          have hi8b : (I : Int) % 8 < 8 := by omega
          have HRW := Lib.hid hrow
          have HBRA := Lib.hid hbra
          have HRA := Lib.hid hrowa
          clear hrowa hbra hrow hcz hgz htk hs1 hs2 hN
          go_wp2_with (at_builtin; refine wpList_append_lies _ rfl (.tmp 50) (.tmp 55) 26 rfl wo.heap.size 3 j0 _ 1 8 Try.underlying26 ji jz0 jz1 jz2 rfl (by decide) (.slice Ar K cr) K (intCells (accL I 0 (rz.take K))) rfl HRA.out ⟨wr.heap.size, 0, none⟩ 1 1 [.int .i64 (N + z % 32 * 8 + (I : Int) % 8)] rfl rfl (World.news_of_block (cs := #[.int .i64 (N + z % 32 * 8 + (I : Int) % 8)]) (t := 3) (fr := (0, 0)) hna) (by simp [Value.oneCell']) (by decide) (by simp only [maxLen]; omega) (by omega) hza _ rfl ?_; intro g8 cap8 w8 hown8 hgr8 _ _; have ho8 := only_grown (S := fun k => (Value.slice Ar K cr).ownBlock = some k) (Only.refl _ _) hgr8 (fun k hk => .inl hk); have hb8 := bl_only HBRA.out ho8 (fun k hk => own_block HRW.out hk))
          go_roundw
          case rel => exact ⟨K + 1, k1, k2, by simp, by rw [HTA.out, HNN.out], by rw [HTL.out, HTA.out, HNN.out, intCells_append]; exact hown8, hb8⟩
          case measure => simp [intOf]; omega
        · have hcase : (rn : Int) ≤ K ∨ (K : Int) < rn ∧ (4 : Int) ≤ K := by omega
          have hKt : rz.take K = rz.take 4 := by
            rcases hcase with h | ⟨_, h⟩
            · rw [List.take_of_length_le (by rw [HLN.out]; omega), List.take_of_length_le (by rw [HLN.out]; omega)]
            · congr 1; omega
          have hrI : accL I 0 (rz.take K) = rowI x0 I := by rw [hKt, rowI, HXR.out]
          rw [hrI] at hrow
          have hKl : (rowI x0 I).length = K := by have := hrow.1; rw [intCells, List.length_map] at this; omega
          have hsn := sumL_snoc (doneI x0 I) (rowI x0 I)
          rw [← doneI_succ, hKl] at hsn
          have how2 := HOW.out.below hbr
          obtain ⟨Ar, cr, rfl⟩ := own_form hrow
          have how3 := how2.below (bl_alloc (Below.refl _ wr) (.cells #[.slice Ar K cr] 26))
          have hq3 := (ownsRow_base hrow hb.size).alloc (.cells #[.slice Ar K cr] 26)
          have hb3 := bl_alloc (bl_then hb hbr) (.cells #[.slice Ar K cr] 26)
          have hn3 := alloc_new wr (.cells #[.slice Ar K cr] 26)
          have hz3 := hb3.size
          have HOW3 := Lib.hid how3
          have HR3 := Lib.hid how3.row
          have HQ3 := Lib.hid hq3
          have HB3 := Lib.hid hb3
          have HSN := Lib.hid hsn
          clear how2 how3 hq3 hb3 hsn hKl hrI hKt hrow HOW HC1 HR4
          rcases hcase with h | ⟨h, h'⟩
          all_goals
            go_wp2_with (at_builtin; refine wpList_append_lies _ rfl (.tmp 61) (.tmp 63) 22 rfl w1.heap.size 26 i0 _ 1 24 Try.underlying22 hi hz0 hz1 hz2 rfl (by decide) _ I (rowCells qs) rfl HR3.out ⟨wr.heap.size, 0, none⟩ 1 1 [.slice Ar K cr] rfl rfl (World.news_of_block (cs := #[.slice Ar K cr]) (t := 26) (fr := (0, 0)) hn3) (by simp [Value.oneCell']) (by decide) (by simp only [maxLen]; omega) (by omega) hz3 _ rfl ?_; intro g8 cap8 w8 hown8 hgr8 _ _; have how8 := HOW3.out.push (q := ⟨Ar, K, cr, rowI x0 I⟩) HQ3.out rfl hown8 hgr8; have hb8 := HOW3.out.grown HB3.out hgr8)
            go_roundw
            case rel => exact ⟨I + 1, qs ++ [⟨Ar, K, cr, rowI x0 I⟩], by omega, by omega, by simp, by rw [HSN.out]; simp, by rw [HSN.out]; omega, how8, hb8⟩
            case measure => simp [intOf]; omega
    · have hcase : (n0 : Int) ≤ I ∨ (I : Int) < n0 ∧ (12 : Int) ≤ I := by omega
      obtain ⟨Av, cv, hv⟩ := own_form how.row
      subst hv
      have HOW := Lib.hid how
      have HB := Lib.hid (bl_then HB1.out hb)
      have hm := mergeA_length (p := pLess) _ (doneI x0 I) rfl
      have hlenq : nums qs = doneI x0 I := how.nums
      have HM := Lib.hid hm
      have HNQ := Lib.hid hlenq
      clear how hm hlenq hlt hb
      have d12 : (I : Int) < n0 → decide ((I : Int) < 12) = false := fun _ => decide_eq_false (by omega)
      have HS := Lib.hid hsum
      rcases hcase with h | ⟨h, h'⟩
      all_goals
        have d12' := d12
        clear d12
        try (have d12 := d12' h; clear d12')
        go_wp2_with fail
        refine (mergeLess _ _ _ _).mono ?_
        rintro e w2 ⟨rfl, hw2⟩
        have q0 := alloc_old (alloc_new wr (.cells #[.func (.func 13) #[] #[]] 32)) (.cells #[.slice Av I cv] 22)
        have q1 := alloc_new (wr.alloc (.cells #[.func (.func 13) #[] #[]] 32)) (.cells #[.slice Av I cv] 22)
        rw [World.size_alloc] at q1
        have hb2 := bl_alloc (bl_alloc (Below.refl _ wr) (.cells #[.func (.func 13) #[] #[]] 32)) (.cells #[.slice Av I cv] 22)
        rw [← hw2] at q0 q1 hb2
        have hR2 := (HOW.out.rows hI2).below hb2
        have hall := allLess (by omega) (by rw [HNQ.out]; have := HS.out; omega) w2 q1 q0 hR2
        rw [HNQ.out, HM.out] at hall
        have HALL := Lib.hid hall
        have HR2 := Lib.hid hR2
        have HB2 := Lib.hid (bl_then HB.out hb2)
        clear hall hR2 q0 q1 hb2 hw2
        go_wp2_with fail
        refine HALL.out.mono ?_
        rintro e w3 ⟨v3, rfl, hrow3, hb3⟩
        obtain ⟨A3, c3, rfl⟩ := own_form hrow3
        have hmk := make_ints I (by omega)
        have HS3 := HS.out
        have HRW3 := Lib.hid hrow3
        have HB3 := Lib.hid hb3
        clear hrow3 hb3 HALL
        go_wp2_with fail
        have hk0 := alloc_new w3 (.cells (fCells I fun _ => 0).toArray 3)
        have hb4 := bl_alloc (Below.refl _ w3) (.cells (fCells I fun _ => 0).toArray 3)
        obtain ⟨K, hKK⟩ : ∃ K, w3.heap.size = K := ⟨_, rfl⟩
        rw [hKK] at hk0
        have h2K : w2.heap.size ≤ K := by rw [← hKK]; exact HB3.out.size
        have hKw : w.heap.size ≤ K := Nat.le_trans HB2.out.size h2K
        have hb5 := bl_then (bl_then HB2.out HB3.out) hb4
        have hrow4 := HRW3.out.alloc (.cells (fCells I fun _ => 0).toArray 3)
        have hgK : ∀ g, (Value.slice A3 (sumL (doneI x0 I)) c3).ownBlock = some g → g < K := fun g hg => by rw [← hKK]; exact own_lt HRW3.out hg
        have hb24 := bl_then HB3.out hb4
        simp only [hKK]
        generalize w3.alloc (.cells (fCells I fun _ => 0).toArray 3) = w4 at *
        have hrr : ∀ W, Only (fun k => k = K) w4 W → RowsAt W Av I qs := fun W hW => HR2.out.below (bl_only hb24 hW (by rintro k rfl; exact h2K))
        have hrl : 0 < sumL (doneI x0 I) → ∃ G, A3 = some ⟨G, 0, none⟩ ∧ ∀ W, Only (fun k => k = K) w4 W → ∀ j, j < sumL (doneI x0 I) → W.cell? ⟨G, j, none⟩ = some (.int .i64 ((mergeA pLess (doneI x0 I)).getD j 0)) := fun h0 => by
          obtain ⟨G, rfl, _⟩ := own_some hrow4 h0
          refine ⟨G, rfl, fun W hW j hj => ?_⟩
          obtain ⟨G', e, _, _, _, hc⟩ := own_some (ownsRow_kept hrow4 hW (fun k hk hk2 => by subst hk; exact absurd (hgK _ hk2) (Nat.lt_irrefl _))) h0
          injection e with e
          injection e with e _ _
          subst e
          exact hc j _ (by rw [intCells, List.getElem?_map, List.getD_eq_getElem?_getD, List.getElem?_eq_getElem (by rw [HM.out]; exact hj)]; rfl)
        have HRR := Lib.hid hrr
        have HRL := Lib.hid hrl
        have HK0 := Lib.hid hk0
        have HB5 := Lib.hid hb5
        clear hk0 hb4 hb5 hrow4 hKK hmk hrr hrl hgK hb24
        go_loopw [12] (fun i W => ∃ (J : Nat) (f : Nat → Nat), J ≤ sumL (doneI x0 I) ∧ i = .int .i64 J ∧ OInv (doneI x0 I) (mergeA pLess (doneI x0 I)) J f ∧ W.heap[K]? = some (.cells (fCells I f).toArray 3 (0, 0)) ∧ Only (fun k => k = K) w4 W) (fun i _ => sumL (doneI x0 I) - (intOf i).toNat)
        case atStart => exact ⟨0, _, Nat.zero_le _, rfl, OInv.start _, HK0.out, Only.refl _ _⟩
        case round =>
          obtain ⟨J, f, hJ, rfl, hinv, hkb, hon⟩ := hrel
          by_cases hjt : J < sumL (doneI x0 I)
          · obtain ⟨G, rfl, hcl⟩ := HRL.out (by omega)
            obtain ⟨B, hB1, hB2, hB3, hB4, hB5, hB6⟩ := hinv.next (by rw [HM.out]; exact hjt) (doneI_rising x0 I)
            rw [doneI_length] at hB1
            have hcJ := fun W hW => hcl W hW J hjt
            have iJ : (J : Int) < sumL (doneI x0 I) := by omega
            have HB3' := Lib.hid hB3
            have HB4' := Lib.hid hB4
            have HB6' := Lib.hid hB6
            have HFB := Lib.hid hB2
            have HKB := Lib.hid hkb
            have cJ := hcJ wr hon
            generalize hZ : (mergeA pLess (doneI x0 I)).getD J 0 = Z at *
            have hleft : ∀ M, J = M + 1 → ∃ Y, wr.cell? ⟨G, M, none⟩ = some (.int .i64 Y) ∧ pLess Z Y = false := fun M hM => ⟨_, hcl wr hon M (by omega), by have := hB5 (by omega); rw [hM] at this; exact this⟩
            have HCJ := Lib.hid hcJ
            clear hcJ hcl hB3 hB4 hB5 hB6 hkb hinv hZ
            have hj01 : ¬ 0 < J ∨ ∃ M, J = M + 1 := by cases J with | zero => exact .inl (Nat.lt_irrefl 0) | succ M => exact .inr ⟨M, rfl⟩
            rcases hj01 with d0 | ⟨M, hM⟩
            · clear hleft
              go_wp2_with fail
              go_quiet (fail)
              have hb3 := HB3'.out
              go_wp2_with fail
              have hstart : ∃ (k : Nat) (f' : Nat → Nat), Value.int .i64 0 = .int .i64 (k : Int) ∧ (Value.bool false = .bool false ∧ k ≤ B ∧ f' = f ∨ Value.bool false = .bool true ∧ k = B + 1 ∧ f' = updN f B (f B + 1)) ∧ (wr.drewN nq).heap[K]? = some (.cells (fCells I f').toArray 3 (0, 0)) ∧ Only (fun k => k = K) w4 (wr.drewN nq) := ⟨0, f, rfl, .inl ⟨rfl, Nat.zero_le _, rfl⟩, HKB.out, hon.drewN _⟩
              have HST := Lib.hid hstart
              clear hstart
              go_loopw [13, 14] (fun fd i W => ∃ (k : Nat) (f' : Nat → Nat), i = .int .i64 k ∧ (fd = .bool false ∧ k ≤ B ∧ f' = f ∨ fd = .bool true ∧ k = B + 1 ∧ f' = updN f B (f B + 1)) ∧ W.heap[K]? = some (.cells (fCells I f').toArray 3 (0, 0)) ∧ Only (fun k => k = K) w4 W) (fun _ i _ => I - (intOf i).toNat)
              case atStart => exact HST.out
              case round =>
                obtain ⟨k, f', rfl, ⟨rfl, hkB, rfl⟩ | ⟨rfl, rfl, rfl⟩, hk2, ho2⟩ := hrel
                · have ik : (k : Int) < I := by omega
                  obtain ⟨g, off, rfl, hg, hc⟩ := (HRR.out _ ho2).cells (by omega)
                  have hqs : qs.length = I := (HRR.out _ ho2).len
                  obtain ⟨r, hr⟩ : ∃ r, qs[k]? = some r := ⟨_, List.getElem?_eq_getElem (by omega)⟩
                  have c1 := hc k r hr
                  have hxr : (doneI x0 I).getD k [] = r.zs := by rw [← HNQ.out]; exact nums_getD hr
                  have r4 := ((HRR.out _ ho2).each r (List.mem_of_getElem? hr)).2.2.2
                  have c2 : wr.cell? ⟨K, k, none⟩ = some (.int .i64 (f' k : Nat)) := by rw [cell_of_blk hk2, fCells_at I f' (by omega)]
                  have c3 := HCJ.out wr ho2
                  obtain ⟨ra, rn, rc, rz⟩ := r
                  dsimp only at c1 hxr r4
                  have hrl := r4.len
                  have hb4 := HB4'.out k
                  rw [hxr, hrl] at hb4
                  by_cases hkB2 : k < B
                  · by_cases hfk : f' k < rn
                    · have ifk : (f' k : Int) < rn := by omega
                      obtain ⟨gz, oz, rfl, hgz, hcz⟩ := r4.cells (by omega)
                      have c4 := hcz _ hfk
                      have hne := hb4 hkB2 hfk
                      have hne2 : (rz.getD (f' k) 0 == Z) = false := by simpa using hne
                      have ho2' := Lib.hid ho2
                      have hk2' := Lib.hid hk2
                      generalize rz.getD (f' k) 0 = Y at *
                      clear hcz r4 hne hb4 hxr hc ho2 hk2
                      go_wp2_with fail
                      go_quiet (fail)
                      go_wp2_with fail
                      go_roundw
                      case rel => exact ⟨k + 1, f', by simp, .inl ⟨rfl, by omega, rfl⟩, hk2'.out, ho2'.out.drewN _⟩
                      case measure => simp [intOf]; omega
                    · have ifk : (rn : Int) ≤ f' k := by omega
                      have ho2' := Lib.hid ho2
                      have hk2' := Lib.hid hk2
                      clear r4 hb4 hxr hc ho2 hk2
                      go_wp2_with fail
                      go_quiet (fail)
                      go_wp2_with fail
                      go_roundw
                      case rel => exact ⟨k + 1, f', by simp, .inl ⟨rfl, by omega, rfl⟩, hk2'.out, ho2'.out.drewN _⟩
                      case measure => simp [intOf]; omega
                  · obtain rfl : k = B := by omega
                    have hfB : f' k < rn := by have := HFB.out; rw [hxr, hrl] at this; exact this
                    have ifk : (f' k : Int) < rn := by omega
                    obtain ⟨gz, oz, rfl, hgz, hcz⟩ := r4.cells (by omega)
                    have c4 := hcz _ hfB
                    have hZZ := HB3'.out
                    rw [hxr] at hZZ
                    rw [hZZ] at c4
                    have hfz := free_of_blk hk2 k
                    have hst := setCell_same (i := k) hk2 (.int .i64 ((f' k : Int) + 1))
                    have hst2 : (fCells I f').set k (.int .i64 ((f' k : Int) + 1)) = fCells I (updN f' k (f' k + 1)) := by
                      have := fCells_set I f' k (f' k + 1)
                      rw [← this]
                      simp
                    rw [hst2] at hst
                    have hsm2 := r4.small
                    have ho2' := Lib.hid ho2
                    have hst' := Lib.hid hst
                    clear hcz r4 hb4 hxr hc ho2 hk2 hst hst2 hZZ
                    go_wp2_with fail
                    go_quiet (fail)
                    go_wp2_with fail
                    go_roundw
                    case rel => exact ⟨k + 1, _, by simp, .inr ⟨rfl, rfl, rfl⟩, hst'.out, (ho2'.out.drewN _).setCell _ _ (.inl rfl)⟩
                    case measure => simp [intOf]; omega
                · have hcase : (I : Int) ≤ (B : Int) + 1 ∨ (B : Int) + 1 < I := by omega
                  rcases hcase with hI9 | hI9
                  all_goals
                    have ho2' := Lib.hid ho2
                    have hk2' := Lib.hid hk2
                    clear ho2 hk2
                    go_wp2_with fail
                    exact ⟨⟨J + 1, _, by omega, by simp, HB6'.out, hk2'.out, ho2'.out⟩, by simp [intOf]; omega⟩
            · obtain ⟨Y, cY, hpl⟩ := hleft M hM
              have hM1 : (J : Int) - 1 = (M : Nat) := by omega
              have iM : (M : Int) < sumL (doneI x0 I) := by omega
              have fl := fnLess Z Y
              rw [hpl] at fl
              have FL := Lib.hid fl
              have d0 : 0 < J := by omega
              clear hleft fl hpl hM
              go_wp2_with fail
              go_quiet ((go_at_call 13; exact Calls.quiet_of_same (FL.out _)))
              have hb3 := HB3'.out
              go_wp2_with fail
              have hstart : ∃ (k : Nat) (f' : Nat → Nat), Value.int .i64 0 = .int .i64 (k : Int) ∧ (Value.bool false = .bool false ∧ k ≤ B ∧ f' = f ∨ Value.bool false = .bool true ∧ k = B + 1 ∧ f' = updN f B (f B + 1)) ∧ (wr.drewN nq).heap[K]? = some (.cells (fCells I f').toArray 3 (0, 0)) ∧ Only (fun k => k = K) w4 (wr.drewN nq) := ⟨0, f, rfl, .inl ⟨rfl, Nat.zero_le _, rfl⟩, HKB.out, hon.drewN _⟩
              have HST := Lib.hid hstart
              clear hstart
              go_loopw [13, 14] (fun fd i W => ∃ (k : Nat) (f' : Nat → Nat), i = .int .i64 k ∧ (fd = .bool false ∧ k ≤ B ∧ f' = f ∨ fd = .bool true ∧ k = B + 1 ∧ f' = updN f B (f B + 1)) ∧ W.heap[K]? = some (.cells (fCells I f').toArray 3 (0, 0)) ∧ Only (fun k => k = K) w4 W) (fun _ i _ => I - (intOf i).toNat)
              case atStart => exact HST.out
              case round =>
                obtain ⟨k, f', rfl, ⟨rfl, hkB, rfl⟩ | ⟨rfl, rfl, rfl⟩, hk2, ho2⟩ := hrel
                · have ik : (k : Int) < I := by omega
                  obtain ⟨g, off, rfl, hg, hc⟩ := (HRR.out _ ho2).cells (by omega)
                  have hqs : qs.length = I := (HRR.out _ ho2).len
                  obtain ⟨r, hr⟩ : ∃ r, qs[k]? = some r := ⟨_, List.getElem?_eq_getElem (by omega)⟩
                  have c1 := hc k r hr
                  have hxr : (doneI x0 I).getD k [] = r.zs := by rw [← HNQ.out]; exact nums_getD hr
                  have r4 := ((HRR.out _ ho2).each r (List.mem_of_getElem? hr)).2.2.2
                  have c2 : wr.cell? ⟨K, k, none⟩ = some (.int .i64 (f' k : Nat)) := by rw [cell_of_blk hk2, fCells_at I f' (by omega)]
                  have c3 := HCJ.out wr ho2
                  obtain ⟨ra, rn, rc, rz⟩ := r
                  dsimp only at c1 hxr r4
                  have hrl := r4.len
                  have hb4 := HB4'.out k
                  rw [hxr, hrl] at hb4
                  by_cases hkB2 : k < B
                  · by_cases hfk : f' k < rn
                    · have ifk : (f' k : Int) < rn := by omega
                      obtain ⟨gz, oz, rfl, hgz, hcz⟩ := r4.cells (by omega)
                      have c4 := hcz _ hfk
                      have hne := hb4 hkB2 hfk
                      have hne2 : (rz.getD (f' k) 0 == Z) = false := by simpa using hne
                      have ho2' := Lib.hid ho2
                      have hk2' := Lib.hid hk2
                      generalize rz.getD (f' k) 0 = Y at *
                      clear hcz r4 hne hb4 hxr hc ho2 hk2
                      go_wp2_with fail
                      go_quiet (fail)
                      go_wp2_with fail
                      go_roundw
                      case rel => exact ⟨k + 1, f', by simp, .inl ⟨rfl, by omega, rfl⟩, hk2'.out, ho2'.out.drewN _⟩
                      case measure => simp [intOf]; omega
                    · have ifk : (rn : Int) ≤ f' k := by omega
                      have ho2' := Lib.hid ho2
                      have hk2' := Lib.hid hk2
                      clear r4 hb4 hxr hc ho2 hk2
                      go_wp2_with fail
                      go_quiet (fail)
                      go_wp2_with fail
                      go_roundw
                      case rel => exact ⟨k + 1, f', by simp, .inl ⟨rfl, by omega, rfl⟩, hk2'.out, ho2'.out.drewN _⟩
                      case measure => simp [intOf]; omega
                  · obtain rfl : k = B := by omega
                    have hfB : f' k < rn := by have := HFB.out; rw [hxr, hrl] at this; exact this
                    have ifk : (f' k : Int) < rn := by omega
                    obtain ⟨gz, oz, rfl, hgz, hcz⟩ := r4.cells (by omega)
                    have c4 := hcz _ hfB
                    have hZZ := HB3'.out
                    rw [hxr] at hZZ
                    rw [hZZ] at c4
                    have hfz := free_of_blk hk2 k
                    have hst := setCell_same (i := k) hk2 (.int .i64 ((f' k : Int) + 1))
                    have hst2 : (fCells I f').set k (.int .i64 ((f' k : Int) + 1)) = fCells I (updN f' k (f' k + 1)) := by
                      have := fCells_set I f' k (f' k + 1)
                      rw [← this]
                      simp
                    rw [hst2] at hst
                    have hsm2 := r4.small
                    have ho2' := Lib.hid ho2
                    have hst' := Lib.hid hst
                    clear hcz r4 hb4 hxr hc ho2 hk2 hst hst2 hZZ
                    go_wp2_with fail
                    go_quiet (fail)
                    go_wp2_with fail
                    go_roundw
                    case rel => exact ⟨k + 1, _, by simp, .inr ⟨rfl, rfl, rfl⟩, hst'.out, (ho2'.out.drewN _).setCell _ _ (.inl rfl)⟩
                    case measure => simp [intOf]; omega
                · have hcase : (I : Int) ≤ (B : Int) + 1 ∨ (B : Int) + 1 < I := by omega
                  rcases hcase with hI9 | hI9
                  all_goals
                    have ho2' := Lib.hid ho2
                    have hk2' := Lib.hid hk2
                    clear ho2 hk2
                    go_wp2_with fail
                    exact ⟨⟨J + 1, _, by omega, by simp, HB6'.out, hk2'.out, ho2'.out⟩, by simp [intOf]; omega⟩
          · obtain rfl : J = sumL (doneI x0 I) := by omega
            have iJ : ¬ (sumL (doneI x0 I) : Int) < sumL (doneI x0 I) := by omega
            clear hinv hkb
            go_wp2_with fail
            go_ret
            exact ⟨rfl, bl_only HB5.out hon (by rintro k rfl; exact hKw)⟩
end Go.Proofs.Ytmiijnemacgbiaa
