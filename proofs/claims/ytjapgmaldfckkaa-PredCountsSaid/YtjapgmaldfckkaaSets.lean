/- Chapter 5: the sets of events that the laws make of rows of rows of numbers. -/
import Derived.Test.YtjapgmaldfckkaaCodes
namespace Go.Proofs.Ytjapgmaldfckkaa
open Go.RowKit
set_option linter.unusedVariables false
set_option linter.unusedSimpArgs false

theorem RowAt.below {α : Type} {d : Kind α} {bytes : Nat} {w w' : World} {a : Option Addr} {n : Nat} {xs : List α} (hR : ∀ cs x, d.R w cs x → d.R w' cs x) (h : RowAt d bytes w a n xs) (hb : Below w.heap.size w w') : RowAt d bytes w' a n xs := by
  refine ⟨h.len, h.small, fun hp => ?_⟩
  obtain ⟨b, off, rfl, h2, hc⟩ := h.cells hp
  refine ⟨b, off, rfl, Nat.lt_of_lt_of_le h2 hb.size, fun i x hx => ?_⟩
  obtain ⟨cs, h3, h4, h5⟩ := hc i x hx
  exact ⟨cs, h3, fun j hj => (hb.cell (p := ⟨b, off + i * d.sz + j, none⟩) h2).trans (h4 j hj), hR _ _ h5⟩

theorem infoEv : (Try.prog.info? 30).map (fun i => (i.zero, i.size, i.bytes)) = some (some (.agg #[.int .i64 0, .int .i64 0, .int .i64 0, .int .i64 0, .int .i64 0, .int .i64 0]), 6, 48) := by kernel_rfl
theorem infoEvs : (Try.prog.info? 27).map (fun i => (i.zero, i.size, i.bytes)) = some (some (.slice none 0 0), 1, 24) := by kernel_rfl

/-- A number as an event; numbers as a set; rows of numbers as sets. -/
def evOf (z : Int) : Ev := ⟨0, 0, z, z / 2, wrap64 (-z), bits BinOp.and IntKind.i64 z 3⟩
def evsOf (zs : List Int) : List Ev := (zs.take 3).map evOf
def setsOf (l : List (List Int)) : List (List Ev) := (l.take 4).map evsOf
def evCells (es : List Ev) : List Value := es.flatMap Ev.cells
theorem evCells_length (es : List Ev) : (evCells es).length = es.length * 6 := by
  induction es with
  | nil => rfl
  | cons c cs ih => simp only [evCells, List.flatMap_cons, List.length_append, Ev.cells, List.length_cons, List.length_nil] at *; omega
theorem evCells_at (es : List Ev) : ∀ i, i < es.length → ∀ j, j < 6 → (evCells es)[i * 6 + j]? = (es.getD i Ev.zero).cells[j]? := by
  induction es with
  | nil => intro i hi; simp at hi
  | cons c cs ih =>
    intro i hi j hj
    have hl : c.cells.length = 6 := rfl
    cases i with
    | zero =>
      simp only [evCells, List.flatMap_cons, Nat.zero_mul, Nat.zero_add, List.getD_cons_zero]
      rw [List.getElem?_append_left (by omega)]
    | succ i =>
      have := ih i (by simpa using hi) j hj
      simp only [evCells, List.flatMap_cons, List.getD_cons_succ] at this ⊢
      rw [List.getElem?_append_right (by omega), hl, show (i + 1) * 6 + j - 6 = i * 6 + j by omega]
      exact this
theorem EvsAt.of_own {w : World} {lo : Nat} {A : Option Addr} {n c : Nat} {es : List Ev} (h : w.ownsRow lo 30 6 (.slice A n c) n (evCells es)) : EvsAt w A n es := by
  have hl : es.length = n := by have := h.1; rw [evCells_length] at this; omega
  refine ⟨hl, fun hp => ?_⟩
  obtain ⟨g, rfl, _, _, hg, hc⟩ := own_some h hp
  refine ⟨g, 0, rfl, hg, fun i hi j hj => ?_⟩
  have h1 := evCells_at es i (by omega) j hj
  have h2 : j < (es.getD i Ev.zero).cells.length := hj
  rw [List.getElem?_eq_getElem h2] at h1
  rw [List.getElem?_eq_getElem h2, Nat.zero_add]
  exact hc _ _ h1
/-- Sets that the call has made: a row of slices, each a row of its own. -/
structure SetsOwn (w : World) (lo : Nat) (v : Value) (ss : List (List Ev)) (vs : List Value) : Prop where
  row : w.ownsRow lo 27 1 v ss.length vs
  inner : ∀ i, i < ss.length → w.ownsRow lo 30 6 (vs.getD i undef) (ss.getD i []).length (evCells (ss.getD i []))
  apart : ∀ i j k, i < j → j < ss.length → (vs.getD i undef).ownBlock = some k → (vs.getD j undef).ownBlock ≠ some k
theorem own_lt {w : World} {lo : Nat} {e : TypeId} {size : Nat} {v : Value} {n : Nat} {xs : List Value} (h : w.ownsRow lo e size v n xs) {k : Nat} (hk : v.ownBlock = some k) : k < w.heap.size := by
  rcases h.2 with ⟨rfl, _⟩ | ⟨g, cap, cur, rfl, _, hg, _⟩
  · cases hk
  · injection hk with hk; subst hk; exact block_lt hg
theorem own_ne {w : World} {lo lo' : Nat} {e e' : TypeId} {size size' : Nat} {v v' : Value} {n n' : Nat} {xs xs' : List Value} (h : w.ownsRow lo e size v n xs) (h' : w.ownsRow lo' e' size' v' n' xs') (hne : e ≠ e') {k : Nat} (hk : v.ownBlock = some k) : v'.ownBlock ≠ some k := by
  intro hk'
  rcases h.2 with ⟨rfl, _⟩ | ⟨g, cap, cur, rfl, _, hg, _⟩
  · cases hk
  · injection hk with hk
    subst hk
    rcases h'.2 with ⟨rfl, _⟩ | ⟨g', cap', cur', rfl, _, hg', _⟩
    · cases hk'
    · injection hk' with hk'
      subst hk'
      rw [hg] at hg'
      injection hg' with hg'
      injection hg' with _ h2 _
      exact hne h2
theorem SetsOwn.kept {S : Nat → Prop} {w w' : World} {lo : Nat} {v : Value} {ss : List (List Ev)} {vs : List Value} (h : SetsOwn w lo v ss vs) (k : Only S w w') (hS : ∀ i, S i → w.heap.size ≤ i) : SetsOwn w' lo v ss vs :=
  ⟨ownsRow_kept h.row k (fun i hi hk => by have := own_lt h.row hk; have := hS i hi; omega), fun i hi => ownsRow_kept (h.inner i hi) k (fun j hj hk => by have := own_lt (h.inner i hi) hk; have := hS j hj; omega), h.apart⟩
theorem SetsOwn.at_ {w : World} {lo : Nat} {A : Option Addr} {n c : Nat} {ss : List (List Ev)} {vs : List Value} (h : SetsOwn w lo (.slice A n c) ss vs) (hn : n = ss.length) : SetsAt w A n ss := by
  subst hn
  refine ⟨rfl, fun hp => ?_⟩
  obtain ⟨g, rfl, _, _, hg, hc⟩ := own_some h.row hp
  refine ⟨g, 0, rfl, hg, fun i hi => ?_⟩
  have hvl : vs.length = ss.length := by have := h.row.1; omega
  have hin := h.inner i hi
  have hgi : vs[i]? = some (vs.getD i undef) := by rw [List.getD_eq_getElem?_getD, List.getElem?_eq_getElem (by omega)]; rfl
  have hcell := hc i _ hgi
  obtain ⟨A', c', he⟩ := own_form hin
  rw [he] at hin hcell
  exact ⟨A', c', by rw [Nat.zero_add]; exact hcell, EvsAt.of_own hin⟩
theorem SetsOwn.form {w : World} {lo : Nat} {v : Value} {ss : List (List Ev)} {vs : List Value} (h : SetsOwn w lo v ss vs) {I : Nat} (hI : ss.length = I) : ∃ A c, v = .slice A I c := by
  subst hI
  exact own_form h.row
theorem SetsOwn.nil (w : World) (lo : Nat) : SetsOwn w lo (.slice none 0 0) [] [] := ⟨⟨rfl, .inl ⟨rfl, rfl⟩⟩, fun i hi => by simp at hi, fun i j k _ hj => by simp at hj⟩
/-- One set more behind: its row is newer than all there was. -/
theorem SetsOwn.snoc {w w' : World} {lo z : Nat} {v v' x : Value} {ss : List (List Ev)} {vs : List Value} {s : List Ev} (h : SetsOwn w lo v ss vs) (hold : ∀ i k, i < ss.length → (vs.getD i undef).ownBlock = some k → k < z) (hx : w.ownsRow z 30 6 x s.length (evCells s)) (hz : lo ≤ z)
    (hown : w'.ownsRow lo 27 1 v' (ss.length + 1) (vs ++ [x])) (hk : Only (fun b => v.ownBlock = some b) w w') : SetsOwn w' lo v' (ss ++ [s]) (vs ++ [x]) := by
  have hvl : vs.length = ss.length := by have := h.row.1; omega
  have hget : ∀ i, i < ss.length → (vs ++ [x]).getD i undef = vs.getD i undef ∧ (ss ++ [s]).getD i [] = ss.getD i [] := fun i hi => by
    simp only [List.getD_eq_getElem?_getD, List.getElem?_append_left (show i < vs.length by omega), List.getElem?_append_left hi]
    exact ⟨trivial, trivial⟩
  have hlast : (vs ++ [x]).getD ss.length undef = x ∧ (ss ++ [s]).getD ss.length [] = s := by
    constructor
    · rw [← hvl]; simp
    · simp
  refine ⟨by rw [List.length_append]; exact hown, fun i hi => ?_, fun i j k hij hj => ?_⟩
  · rw [List.length_append, List.length_singleton] at hi
    rcases Nat.lt_or_ge i ss.length with h1 | h1
    · rw [(hget i h1).1, (hget i h1).2]
      exact ownsRow_kept (h.inner i h1) hk (fun j hj => own_ne h.row (h.inner i h1) (by decide) hj)
    · obtain rfl : i = ss.length := by omega
      rw [hlast.1, hlast.2]
      exact ownsRow_kept (ownsRow_base hx hz) hk (fun j hj => own_ne h.row hx (by decide) hj)
  · rw [List.length_append, List.length_singleton] at hj
    rw [(hget i (by omega)).1]
    rcases Nat.lt_or_ge j ss.length with h1 | h1
    · rw [(hget j h1).1]
      exact h.apart i j k hij h1
    · obtain rfl : j = ss.length := by omega
      rw [hlast.1]
      intro hk1 hk2
      have := hold i k hij hk1
      have := own_block hx hk2
      omega

theorem Reads.of_own' {w : World} {base : Nat} {e : TypeId} {size : Nat} {v : Value} {n : Nat} {xs : List Value} (h : w.ownsRow base e size v n xs) : v.oneCell' = true := by
  obtain ⟨A, c, rfl⟩ := own_form h
  rfl
theorem take_map_succ {α β : Type} (f : α → β) (l : List α) (K : Nat) (x : α) (h : l[K]? = some x) : (l.take (K + 1)).map f = (l.take K).map f ++ [f x] := by
  obtain ⟨hK, rfl⟩ := List.getElem?_eq_some_iff.1 h
  rw [List.take_succ_eq_append_getElem hK, List.map_append]
  rfl
theorem take_cap {α : Type} (l : List α) (I N : Nat) (h : l.length ≤ I ∧ I ≤ N ∧ I ≤ l.length ∨ N ≤ I ∧ I ≤ N) : l.take N = l.take I := by
  rcases h with ⟨h1, h2, _⟩ | ⟨h1, h2⟩
  · rw [List.take_of_length_le (by omega), List.take_of_length_le (by omega)]
  · obtain rfl : I = N := by omega
    rfl

set_option maxHeartbeats 4000000 in
set_option maxRecDepth 100000 in
theorem sets_any {w : World} {a : Option Addr} {n cap : Nat} {l : List (List Int)} (h : RowAt (kSlice (kInt .i64) 8) 24 w a n l) :
    Calls Try.prog 9 #[.slice a n cap] w fun e w' => ∃ A c vs, e = .returned (.slice A (setsOf l).length c) ∧ SetsOwn w' w.heap.size (.slice A (setsOf l).length c) (setsOf l) vs ∧ Below w.heap.size w w' := by
  have hl := h.len
  have H := Lib.hid h
  have hsm := h.small
  obtain ⟨i0, hi, hz0, hz1, hz2⟩ := info_parts infoEv
  obtain ⟨i1, hi', hz0', hz1', hz2'⟩ := info_parts infoEvs
  clear h
  have HLN := Lib.hid hl
  clear hl
  go_enter Try.func9, Try.ntmps9
  go_wp2
  go_loopw [3, 4] (fun out i wr => ∃ I : Nat, I ≤ n ∧ I ≤ 4 ∧ i = .int .i64 I ∧ Below w.heap.size w wr ∧ ∃ vs, SetsOwn wr w.heap.size out ((l.take I).map evsOf) vs) (fun _ i _ => n - (intOf i).toNat)
  case atStart => exact ⟨0, Nat.zero_le _, by omega, rfl, Below.refl _ _, [], SetsOwn.nil _ _⟩
  case round =>
    obtain ⟨I, hI, hI2, rfl, hb, vs, hso⟩ := hrel
    have hlI : ((l.take I).map evsOf).length = I := by have := HLN.out; rw [List.length_map, List.length_take]; omega
    obtain ⟨A0, c0, rfl⟩ := hso.form hlI
    have HSO := Lib.hid hso
    have HLI := Lib.hid hlI
    clear hso hlI
    by_cases h1 : I < n ∧ I < 4
    · obtain ⟨h1, h2⟩ := h1
      obtain ⟨b, off, zs, cs, rfl, hx, hcl, ⟨a1, m, cap1, rfl, hmc, _, hnil, hzs⟩, hcc⟩ := H.out.later h1
      have hin := hzs.ints
      have x0 : wr.cell? ⟨b, off + I, none⟩ = some (.slice a1 m cap1) := by simpa [kSlice] using hcc wr hb 0 (by decide)
      have HX := Lib.hid hx
      have HI := Lib.hid hin
      have HC := Lib.hid hcc
      have d4 : decide ((I : Int) < 4) = true := decide_eq_true (by omega)
      clear hx hin hcc hzs hnil
      obtain ⟨wo, rfl⟩ : ∃ wo : World, wo = wr := ⟨_, rfl⟩
      go_wp2
      go_loopw [5, 6] (fun s k wr => ∃ K : Nat, K ≤ m ∧ K ≤ 3 ∧ k = .int .i64 K ∧ Below w.heap.size w wr ∧ wr.cell? ⟨b, off + I, none⟩ = some (.slice a1 m cap1) ∧ Only (fun b => wo.heap.size ≤ b) wo wr ∧ wr.ownsRow wo.heap.size 30 6 s K (evCells ((zs.take K).map evOf))) (fun _ k _ => m - (intOf k).toNat)
      case atStart => exact ⟨0, Nat.zero_le _, by omega, rfl, hb, x0, Only.refl _ _, rfl, .inl ⟨rfl, rfl⟩⟩
      case round =>
        obtain ⟨K, hK, hK2, rfl, hb5, x5, ho5, hown⟩ := hrel
        obtain ⟨A5, c5, rfl⟩ := own_form hown
        clear x0
        by_cases h3 : K < m ∧ K < 3
        · obtain ⟨h3, h4⟩ := h3
          obtain ⟨b2, o2, rfl, hb2, hc2⟩ := HI.out.cells (by omega)
          have y0 := (hb5.cell (p := ⟨b2, o2 + K, none⟩) hb2).trans (hc2 K h3)
          have hzk : zs[K]? = some (zs.getD K 0) := by rw [List.getD_eq_getElem?_getD, List.getElem?_eq_getElem (by rw [HI.out.len]; exact h3)]; rfl
          generalize zs.getD K 0 = z at *
          have HZ := Lib.hid hzk
          clear hc2 hzk
          have hbase : wo.heap.size ≤ (wr.alloc (.cells #[.int .i64 0, .int .i64 0, .int .i64 z, .int .i64 (z / 2), .int .i64 (wrap64 (-z)), .int .i64 (bits BinOp.and IntKind.i64 z 3)] 30)).heap.size := by have := ho5.size; simp; omega
          go_wp2_with (at_builtin; refine wpList_append_own _ rfl (.tmp 38) (.tmp 48) 27 rfl wo.heap.size 30 i0 _ 6 48 Try.underlying27 hi hz0 hz1 hz2 rfl (by decide) (.slice A5 K c5) K _ rfl (hown.alloc _) ⟨wr.heap.size, 0, none⟩ 1 1 [.int .i64 0, .int .i64 0, .int .i64 z, .int .i64 (z / 2), .int .i64 (wrap64 (-z)), .int .i64 (bits BinOp.and IntKind.i64 z 3)] rfl rfl (cells_new_at _ _ rfl _ _) (by simp [Value.oneCell']) (by simp only [maxLen]; omega) (by omega) hbase ?_; intro v w4 hown4 hgr4 _)
          have ho6 : Only (fun b => wo.heap.size ≤ b) wo w4 := only_grown (ho5.alloc _) hgr4 (fun k hk => .inr (own_block hown hk))
          have hb6 : Below w.heap.size w w4 := bl_only hb ho6 (fun i hi => Nat.le_trans hb.size hi)
          go_roundw
          case rel =>
            refine ⟨K + 1, by omega, by omega, by simp, hb6, ?_, ho6, ?_⟩
            · have := HC.out w4 hb6 0 (by decide); simpa [kSlice] using this
            · rw [take_map_succ evOf zs K z HZ.out]
              have he : evCells ((zs.take K).map evOf ++ [evOf z]) = evCells ((zs.take K).map evOf) ++ [.int .i64 0, .int .i64 0, .int .i64 z, .int .i64 (z / 2), .int .i64 (wrap64 (-z)), .int .i64 (bits BinOp.and IntKind.i64 z 3)] := by
                simp only [evCells, List.flatMap_append, List.flatMap_cons, List.flatMap_nil, List.append_nil, Ev.cells, evOf]
              rw [he]
              exact hown4
          case measure => simp [intOf]; omega
        · have hcase : (m : Int) ≤ K ∨ (K : Int) < m ∧ (3 : Int) ≤ K := by omega
          have hev : evsOf zs = (zs.take K).map evOf := by
            unfold evsOf
            rw [take_cap zs K 3 (by have := HI.out.len; omega)]
          have hel : (evsOf zs).length = K := by
            have := HI.out.len
            rw [hev, List.length_map, List.length_take]
            omega
          rw [← hev] at hown
          have HEL := Lib.hid hel
          have HOW := Lib.hid hown
          have ho6 : Only (fun b => wo.heap.size ≤ b) wo (wr.alloc (.cells #[.slice A5 K c5] 27)) := ho5.alloc _
          have hso6 := HSO.out.kept ho6 (fun i h => h)
          have hrow6 := hso6.row
          rw [HLI.out] at hrow6
          have hbase : w.heap.size ≤ (wr.alloc (.cells #[.slice A5 K c5] 27)).heap.size := by have := ho6.size; have := hb.size; omega
          clear h3 hev hel hown
          rcases hcase with h3 | ⟨h3, h4⟩
          all_goals
            go_wp2_with (at_builtin; refine wpList_append_own _ rfl (.tmp 50) (.tmp 52) 25 rfl w.heap.size 27 i1 _ 1 24 Try.underlying25 hi' hz0' hz1' hz2' rfl (by decide) _ I _ rfl hrow6 ⟨wr.heap.size, 0, none⟩ 1 1 [.slice A5 K c5] rfl rfl (cell_one_at _ _ rfl _ _) (by simp [Value.oneCell']) (by simp only [maxLen]; omega) (by omega) hbase ?_; intro v w4 hown4 hgr4 _)
            go_roundw
            case rel =>
              refine ⟨I + 1, by omega, by omega, by simp, ?_, vs ++ [.slice A5 K c5], ?_⟩
              · exact bl_only hb (S := fun b => w.heap.size ≤ b) (only_grown (ho6.mono (fun i hi => Nat.le_trans hb.size hi)) hgr4 (fun k hk => .inl (own_block hrow6 hk))) (fun i h => h)
              · rw [take_map_succ evsOf l I zs HX.out]
                have hold := HSO.out
                have hin6 : (wr.alloc (.cells #[.slice A5 K c5] 27)).ownsRow wo.heap.size 30 6 (.slice A5 K c5) (evsOf zs).length (evCells (evsOf zs)) := by rw [HEL.out]; exact HOW.out.alloc _
                refine hso6.snoc (z := wo.heap.size) (fun i k hi hk => own_lt (hold.inner i hi) hk) hin6 hb.size ?_ (only_grown (Only.refl _ _) hgr4 (fun k hk => .inl hk))
                rw [HLI.out]
                exact hown4
            case measure => simp [intOf]; omega
    · have hcase : (n : Int) ≤ I ∨ (I : Int) < n ∧ (4 : Int) ≤ I := by omega
      have hI3 : setsOf l = (l.take I).map evsOf := by
        unfold setsOf
        rw [take_cap l I 4 (by have := HLN.out; omega)]
      have hI4 : (setsOf l).length = I := by rw [hI3]; exact HLI.out
      have HI := Lib.hid hI3
      have HJ := Lib.hid hI4
      clear h1 hI3 hI4
      rcases hcase with h1 | ⟨h1, h2⟩
      all_goals
        go_wp2
        go_ret
        refine ⟨A0, c0, vs, by rw [HJ.out]; rfl, ?_, hb⟩
        rw [HJ.out, HI.out]
        exact HSO.out
end Go.Proofs.Ytjapgmaldfckkaa
