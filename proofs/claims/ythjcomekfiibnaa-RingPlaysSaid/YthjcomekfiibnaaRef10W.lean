/- The document's own ring (sibylref10): its contracts. -/
import Derived.Test.YthjcomekfiibnaaSl
import Derived.Test.YthjcomekfiibnaaSame10
import Derived.StillTailTactics
namespace Go.Proofs.Ythjcomekfiibnaa
open Go.RowKit
set_option linter.unusedVariables false

/-- The document's ring in block M: size n, low, items l in a row of its own. -/
structure RefAt (w : World) (lo M : Nat) (n low : Int) (l : List (Int × Int)) (A : Option Addr) (c : Nat) : Prop where
  hM : w.heap[M]? = some (.cells [.int .i64 n, .int .i64 low, .slice A l.length c].toArray 30 (0, 0))
  row : w.ownsRow lo 44 2 (.slice A l.length c) l.length (itemCells l)
  lo_ : lo ≤ M
  ne : ∀ a, A = some a → a.block ≠ M
theorem RefAt.c0 {w : World} {lo M : Nat} {n low : Int} {l : List (Int × Int)} {A : Option Addr} {c : Nat} (h : RefAt w lo M n low l A c) : w.cell? ⟨M, 0, none⟩ = some (.int .i64 n) := cell_of_blk h.hM 0
theorem RefAt.c1 {w : World} {lo M : Nat} {n low : Int} {l : List (Int × Int)} {A : Option Addr} {c : Nat} (h : RefAt w lo M n low l A c) : w.cell? ⟨M, 1, none⟩ = some (.int .i64 low) := cell_of_blk h.hM 1
theorem RefAt.c2 {w : World} {lo M : Nat} {n low : Int} {l : List (Int × Int)} {A : Option Addr} {c : Nat} (h : RefAt w lo M n low l A c) : w.cell? ⟨M, 2, none⟩ = some (.slice A l.length c) := cell_of_blk h.hM 2
theorem RefAt.fr {w : World} {lo M : Nat} {n low : Int} {l : List (Int × Int)} {A : Option Addr} {c : Nat} (h : RefAt w lo M n low l A c) (i : Nat) : w.frozen? ⟨M, i, none⟩ = false := free_of_blk h.hM i
theorem RefAt.pairs {w : World} {lo M : Nat} {n low : Int} {l : List (Int × Int)} {A : Option Addr} {c : Nat} (h : RefAt w lo M n low l A c) : PairsAt w lo A l.length l := by
  obtain ⟨a, cap, hv, hp⟩ := PairsAt.of_own h.row
  injection hv with h1 _ _
  subst h1
  exact hp
theorem RefAt.kept {S : Nat → Prop} {w w' : World} {lo M : Nat} {n low : Int} {l : List (Int × Int)} {A : Option Addr} {c : Nat} (h : RefAt w lo M n low l A c) (k : Only S w w') (hS : ∀ i, S i → i < lo) : RefAt w' lo M n low l A c := by
  refine ⟨k.block h.hM (fun hs => by have := hS _ hs; have := h.lo_; omega), ownsRow_kept h.row k (fun i hi => ?_), h.lo_, h.ne⟩
  have hi' := hS i hi
  rcases h.row.2 with ⟨hv, _⟩ | ⟨g, cap, cur, hv, hb, _⟩
  · rw [hv]; simp [Value.ownBlock]
  · rw [hv]; simp [Value.ownBlock]; omega
theorem item_one (l : List (Int × Int)) : ∀ u ∈ itemCells l, u.oneCell' = true := by
  intro u hu
  obtain ⟨p, _, hp⟩ := List.mem_flatMap.1 hu
  simp only [List.mem_cons, List.not_mem_nil, or_false] at hp
  rcases hp with rfl | rfl <;> rfl
theorem infoItem2 : (Try.prog.info? 44).map (fun i => (i.zero, i.size, i.bytes)) = some (some (.agg #[.int .i64 0, .int .i64 0]), 2, 16) := by kernel_rfl

/-- Where the thing at a place stands; below 0: there is none. -/
def refFind : List (Int × Int) → Int → Int → Int
  | [], _, _ => -1
  | p :: l, at_, i => if p.1 = at_ then i else refFind l at_ (i + 1)
theorem refFind_drop {l : List (Int × Int)} {at_ : Int} (k : Nat) (h : k < l.length) (i : Int) : refFind (l.drop k) at_ i = if (l.getD k (0, 0)).1 = at_ then i else refFind (l.drop (k + 1)) at_ (i + 1) := by
  rw [List.drop_eq_getElem_cons h, refFind, List.getD_eq_getElem?_getD, List.getElem?_eq_getElem h]
  rfl

set_option maxHeartbeats 1000000 in
theorem find_any {w : World} {lo M : Nat} {n low : Int} {l : List (Int × Int)} {A : Option Addr} {c : Nat} (h : RefAt w lo M n low l A c) (at_ : Int) (hlen : l.length ≤ 4096) :
    Calls Try.prog 24 #[.pointer (some ⟨M, 0, none⟩), .int .i64 at_] w fun e w' => e = .returned (.int .i64 (refFind l at_ 0)) ∧ w' = w := by
  have c2 := h.c2
  have HP := Lib.hid h.pairs
  clear h
  obtain ⟨w0, rfl⟩ : ∃ w0 : World, w0 = w := ⟨_, rfl⟩
  go_enter Try.func24, Try.ntmps24
  go_wp2
  go_loopw [5] (fun i wr => ∃ k : Nat, k ≤ l.length ∧ i = .int .i64 k ∧ wr = w0 ∧ refFind l at_ 0 = refFind (l.drop k) at_ k) (fun i _ => l.length - (intOf i).toNat)
  case atStart => exact ⟨0, Nat.zero_le _, rfl, rfl, rfl⟩
  case round =>
    obtain ⟨k, hk, rfl, rfl, hf⟩ := hrel
    have HF := Lib.hid hf
    clear hf
    by_cases hlt : k < l.length
    · obtain ⟨b1, o1, rfl, _, _, hc1⟩ := HP.out.cells (by omega)
      obtain ⟨x1, x2⟩ := hc1 k hlt
      have hst := Lib.hid (refFind_drop (at_ := at_) k hlt k)
      generalize (l.getD k (0, 0)).1 = p at *
      generalize (l.getD k (0, 0)).2 = q at *
      clear hc1
      have hk0 : (k : Int) < l.length := by omega
      by_cases h1 : p = at_
      · subst h1
        have hr := HF.out.trans (hst.out.trans (if_pos rfl))
        have HR := Lib.hid hr
        clear hr
        go_wp2
        go_ret
        exact ⟨by rw [HR.out]; rfl, rfl⟩
      · have hr := HF.out.trans (hst.out.trans (if_neg h1))
        have HR := Lib.hid hr
        clear hr
        have d1 : (p == at_) = false := by simpa using h1
        go_wp2
        go_roundw
        case rel => exact ⟨k + 1, by omega, by simp, trivial, by rw [HR.out]; simp⟩
        case measure => simp [intOf]; omega
    · obtain rfl : l.length = k := by omega
      have hr : refFind l at_ 0 = -1 := by rw [HF.out, List.drop_length]; rfl
      have HR := Lib.hid hr
      clear hr
      go_wp2
      go_ret
      exact ⟨by rw [HR.out]; rfl, rfl⟩

theorem refFind_spec (l : List (Int × Int)) (at_ : Int) : ∀ i : Int, (refFind l at_ i = -1 ∧ l.find? (fun p => p.1 == at_) = none) ∨ (∃ k, k < l.length ∧ refFind l at_ i = i + k ∧ l.find? (fun p => p.1 == at_) = some (l.getD k (0, 0))) := by
  induction l with
  | nil => intro i; exact .inl ⟨rfl, rfl⟩
  | cons p l ih =>
    intro i
    by_cases h : p.1 = at_
    · exact .inr ⟨0, by simp, by simp [refFind, h], by simp [h]⟩
    · rcases ih (i + 1) with ⟨h1, h2⟩ | ⟨k, hk, h1, h2⟩
      · exact .inl ⟨by rw [refFind, if_neg h, h1], by rw [List.find?_cons, show (p.1 == at_) = false by simpa using h]; simp [h2]⟩
      · exact .inr ⟨k + 1, by simp; omega, by rw [refFind, if_neg h, h1]; push_cast; omega, by rw [List.find?_cons, show (p.1 == at_) = false by simpa using h]; simp [h2]⟩

set_option maxHeartbeats 1000000 in
theorem get_ref {w : World} {lo M : Nat} {n low : Int} {l : List (Int × Int)} {A : Option Addr} {c : Nat} (h : RefAt w lo M n low l A c) (at_ : Int) (hlen : l.length ≤ 4096) :
    Calls Try.prog 15 #[.pointer (some ⟨M, 0, none⟩), .int .i64 at_] w fun e w' => e = .returned (.tuple #[.int .i64 (refGet l at_).1, .bool (refGet l at_).2]) ∧ w = w' := by
  have c2 := h.c2
  have hp := h.pairs
  have hfind := find_any h at_ hlen
  clear h
  unfold refGet
  rcases refFind_spec l at_ 0 with ⟨h1, h2⟩ | ⟨k, hk, h1, h2⟩
  · rw [h2]
    rw [h1] at hfind
    go_enter Try.func15, Try.ntmps15
    go_wp2_with fail
    refine hfind.mono ?_
    rintro e w' ⟨rfl, rfl⟩
    go_wp2_with fail
    go_ret2
    exact ⟨rfl, rfl⟩
  · rw [h2]
    rw [h1] at hfind
    obtain ⟨b1, o1, rfl, _, _, hc1⟩ := hp.cells (by omega)
    obtain ⟨x1, x2⟩ := hc1 k hk
    generalize l.getD k (0, 0) = p at *
    have hk0 : (k : Int) < l.length := by omega
    rw [Int.zero_add] at hfind
    clear hc1 h1 h2 hp
    go_enter Try.func15, Try.ntmps15
    go_wp2_with fail
    refine hfind.mono ?_
    rintro e w' ⟨rfl, rfl⟩
    go_wp2_with fail
    go_ret2
    exact ⟨rfl, rfl⟩

theorem refFind_has (l : List (Int × Int)) (at_ : Int) : decide (0 ≤ refFind l at_ 0) = refHas l at_ := by
  unfold refHas
  rcases refFind_spec l at_ 0 with ⟨h1, h2⟩ | ⟨k, hk, h1, h2⟩
  · rw [h1, h2]; rfl
  · rw [h1, h2]; exact decide_eq_true (by omega)
theorem RefAt.drewN {w : World} {lo M : Nat} {n low : Int} {l : List (Int × Int)} {A : Option Addr} {c : Nat} (h : RefAt w lo M n low l A c) (j : Nat) : RefAt (w.drewN j) lo M n low l A c := ⟨h.hM, h.row, h.lo_, h.ne⟩

set_option maxHeartbeats 1000000 in
theorem refput_no {w : World} {lo M : Nat} {n low : Int} {l : List (Int × Int)} {A : Option Addr} {c : Nat} (h : RefAt w lo M n low l A c) (at_ x : Int) (hlen : l.length ≤ 4096) (h0 : 0 ≤ low) (h1 : low ≤ 9223372036854775807) (h2 : at_ ≤ 9223372036854775807)
    (hno : ¬ (low ≤ at_ ∧ at_ - low < n ∧ refHas l at_ = false)) :
    Calls Try.prog 13 #[.pointer (some ⟨M, 0, none⟩), .int .i64 at_, .int .i64 x] w fun e w' => e = .returned (.bool false) ∧ ∃ j, w' = w.drewN j := by
  have c0 := h.c0
  have c1 := h.c1
  have H := Lib.hid h
  clear h
  by_cases g1 : low ≤ at_
  · have d1 : decide (at_ < low) = false := decide_eq_false (by omega)
    have s1 : IntKind.i64.wrap (at_ - low) = at_ - low := IntWalk.i64_in _ (by omega)
    by_cases g2 : at_ - low < n
    · have d2 : decide (n ≤ at_ - low) = false := decide_eq_false (by omega)
      have d3 : decide (0 ≤ refFind l at_ 0) = true := by
        rw [refFind_has]
        cases hh : refHas l at_
        · exact absurd ⟨g1, g2, hh⟩ hno
        · rfl
      clear hno g1 g2
      go_enter Try.func13, Try.ntmps13
      go_wp2_with fail
      go_quiet ((go_at_call 24; exact Calls.quiet_of_same (find_any (H.out.drewN _) at_ hlen)))
      go_wp2_with fail
      go_ret
      exact ⟨rfl, _, rfl⟩
    · have d2 : decide (n ≤ at_ - low) = true := decide_eq_true (by omega)
      clear hno
      go_enter Try.func13, Try.ntmps13
      go_wp2_with fail
      go_quiet (fail)
      go_wp2_with fail
      go_ret
      exact ⟨rfl, _, rfl⟩
  · have d1 : decide (at_ < low) = true := decide_eq_true (by omega)
    clear hno
    go_enter Try.func13, Try.ntmps13
    go_wp2_with fail
    go_quiet (fail)
    go_wp2_with fail
    go_ret
    exact ⟨rfl, _, rfl⟩

theorem refPut_cells (l : List (Int × Int)) (at_ x : Int) (T : Nat) (hT : T = (l.takeWhile (fun p => decide (p.1 < at_))).length) : itemCells (refPut l at_ x) = (itemCells l).take (T * 2) ++ [.int .i64 at_, .int .i64 x] ++ (itemCells l).drop (T * 2) := by
  subst hT
  have h := List.takeWhile_append_dropWhile (p := fun p : Int × Int => decide (p.1 < at_)) (l := l)
  have h2 : itemCells l = itemCells (l.takeWhile (fun p => decide (p.1 < at_))) ++ itemCells (l.dropWhile (fun p => decide (p.1 < at_))) := by rw [← itemCells_append, h]
  have hl := itemCells_length (l.takeWhile (fun p => decide (p.1 < at_)))
  rw [h2, ← hl, List.take_left, List.drop_left, refPut, itemCells_append]
  simp [itemCells]
theorem refPut_cells_end (l : List (Int × Int)) (at_ x : Int) (hT : l.length = (l.takeWhile (fun p => decide (p.1 < at_))).length) : itemCells (refPut l at_ x) = (itemCells l).take (l.length * 2) ++ [.int .i64 at_, .int .i64 x] ++ [] := by
  rw [refPut_cells l at_ x _ hT, List.drop_eq_nil_of_le (Nat.le_of_eq (itemCells_length l))]
theorem RefAt.le_cap {w : World} {lo M : Nat} {n low : Int} {l : List (Int × Int)} {A : Option Addr} {c : Nat} (h : RefAt w lo M n low l A c) : l.length ≤ c := by
  rcases h.row.2 with ⟨hv, h0⟩ | ⟨g, cap, cur, hv, _, _, h0, _⟩
  · omega
  · injection hv with _ _ h3; omega
theorem RefAt.bare {w : World} {lo M : Nat} {n low : Int} {l : List (Int × Int)} {c : Nat} (h : RefAt w lo M n low l none c) : l.length = 0 ∧ c = 0 := by
  rcases h.row.2 with ⟨hv, h0⟩ | ⟨g, cap, cur, hv, _⟩
  · injection hv with _ _ h3; exact ⟨h0, h3⟩
  · cases hv
theorem RefAt.form {w : World} {lo M : Nat} {n low : Int} {l : List (Int × Int)} {b : Addr} {c : Nat} (h : RefAt w lo M n low l (some b) c) : ∃ g, b = ⟨g, 0, none⟩ := by
  rcases h.row.2 with ⟨hv, h0⟩ | ⟨g, cap, cur, hv, _⟩
  · cases hv
  · injection hv with h1 _ _; injection h1 with h1; exact ⟨g, h1⟩
theorem RefAt.items {w : World} {lo lo' M : Nat} {n low : Int} {l l' : List (Int × Int)} {A : Option Addr} {c N : Nat} {v : Value} {xs : List Value} (h : RefAt w lo M n low l A c) (hown : w.ownsRow lo' 44 2 v N xs) (hN : N = l'.length) (hxs : xs = itemCells l') (hlo : lo ≤ lo') (hM : M < lo') :
    ∃ A' c', RefAt (w.setCell ⟨M, 2, none⟩ v) lo M n low l' A' c' := by
  subst hN hxs
  obtain ⟨A', c', rfl⟩ := own_form hown
  have hne : ∀ a, A' = some a → a.block ≠ M := by
    rintro a rfl
    have := own_block hown (k := a.block) rfl
    omega
  refine ⟨A', c', setCell_same h.hM _, ?_, h.lo_, hne⟩
  refine ownsRow_base (ownsRow_kept (S := fun b => b = M) hown ((Only.refl _ _).setCell _ _ (.inl rfl)) ?_) hlo
  rintro i rfl
  intro hk
  have := own_block hown hk
  omega
theorem alloc_old' {w : World} (o : Obj) {b : Nat} (hb : b < w.heap.size) : (w.alloc o).heap[b]? = w.heap[b]? := Below.heap_alloc w o b hb
theorem takeWhile_at (l : List (Int × Int)) (at_ : Int) (K : Nat) (h : K < (l.takeWhile (fun p => decide (p.1 < at_))).length) : (l.getD K (0, 0)).1 < at_ ∧ K < l.length := by
  have hle := (List.takeWhile_prefix (l := l) (fun p : Int × Int => decide (p.1 < at_))).length_le
  have hm := List.getElem_mem h
  have := List.all_takeWhile (p := fun p : Int × Int => decide (p.1 < at_)) (l := l)
  have h2 := of_decide_eq_true (List.all_eq_true.1 this _ hm)
  refine ⟨?_, by omega⟩
  rw [List.getD_eq_getElem?_getD, List.getElem?_eq_getElem (by omega)]
  have hp := (List.takeWhile_prefix (l := l) (fun p : Int × Int => decide (p.1 < at_))).getElem h
  simpa [hp] using h2
theorem takeWhile_end (l : List (Int × Int)) (at_ : Int) (h : (l.takeWhile (fun p => decide (p.1 < at_))).length < l.length) : at_ ≤ (l.getD (l.takeWhile (fun p => decide (p.1 < at_))).length (0, 0)).1 := by
  induction l with
  | nil => simp at h
  | cons p l ih =>
    by_cases hp : p.1 < at_
    · rw [List.takeWhile_cons_of_pos (by simpa using hp)] at h ⊢
      simp only [List.length_cons] at h ⊢
      exact ih (by omega)
    · rw [List.takeWhile_cons_of_neg (by simpa using hp)]
      simp only [List.length_nil, List.getD_cons_zero]
      omega

set_option maxHeartbeats 2000000 in
theorem refput_yes {w : World} {lo M : Nat} {n low : Int} {l : List (Int × Int)} {A : Option Addr} {c : Nat} (h : RefAt w lo M n low l A c) (at_ x : Int) (hlen : l.length ≤ 4095) (h0 : 0 ≤ low) (h1 : low ≤ 9223372036854775807) (h2 : at_ ≤ 9223372036854775807)
    (g1 : low ≤ at_) (g2 : at_ - low < n) (g3 : refHas l at_ = false) :
    Calls Try.prog 13 #[.pointer (some ⟨M, 0, none⟩), .int .i64 at_, .int .i64 x] w fun e w' => e = .returned (.bool true) ∧ (∃ A' c', RefAt w' lo M n low (refPut l at_ x) A' c') ∧ Only (fun b => b = M) w w' := by
  have c0 := h.c0
  have c1 := h.c1
  have H := Lib.hid h
  have hl := h.lo_
  clear h
  have d1 : decide (at_ < low) = false := decide_eq_false (by omega)
  have s1 : IntKind.i64.wrap (at_ - low) = at_ - low := IntWalk.i64_in _ (by omega)
  have d2 : decide (n ≤ at_ - low) = false := decide_eq_false (by omega)
  have d3 : decide (0 ≤ refFind l at_ 0) = false := by rw [refFind_has, g3]
  clear g1 g2 g3
  obtain ⟨i0, hi, hz0, hz1, hz2⟩ := info_parts infoItem2
  go_enter Try.func13, Try.ntmps13
  go_wp2_with fail
  go_quiet ((go_at_call 24; exact Calls.quiet_of_same (find_any (H.out.drewN _) at_ (by omega))))
  obtain ⟨w1, hw1⟩ : ∃ w1, w1 = w.drewN nq := ⟨_, rfl⟩
  have H1 : RefAt w1 lo M n low l A c := hw1 ▸ H.out.drewN nq
  have c2 := H1.c2
  have HO : Only (fun b => b = M) w w1 := hw1 ▸ (Only.refl _ _).drewN nq
  rw [← hw1]
  clear hw1 H d1 s1 d2 d3 c0 c1
  have HP := Lib.hid H1.pairs
  have HH := Lib.hid H1
  clear H1
  obtain ⟨T, hT⟩ : ∃ T, T = (l.takeWhile (fun p => decide (p.1 < at_))).length := ⟨_, rfl⟩
  have hTl : T ≤ l.length := by rw [hT]; exact (List.takeWhile_prefix (l := l) (fun p : Int × Int => decide (p.1 < at_))).length_le
  have HT := Lib.hid hT
  clear hT
  go_wp2_with fail
  go_loopw [7] (fun i wr => ∃ K : Nat, K ≤ T ∧ i = .int .i64 K ∧ wr = w1) (fun i _ => l.length - (intOf i).toNat)
  case atStart => exact ⟨0, Nat.zero_le _, rfl, rfl⟩
  case round =>
    obtain ⟨K, hK, rfl, rfl⟩ := hrel
    by_cases hlt : K < T
    · obtain ⟨hx, hKl⟩ := takeWhile_at l at_ K (by rw [← HT.out]; exact hlt)
      obtain ⟨b1, o1, rfl, _, _, hc1⟩ := HP.out.cells (by omega)
      obtain ⟨x1, x2⟩ := hc1 K hKl
      generalize (l.getD K (0, 0)).1 = p at *
      clear hc1
      have hk0 : (K : Int) < l.length := by omega
      have d1 : decide (p < at_) = true := decide_eq_true hx
      go_wp2_with fail
      go_roundw
      case rel => exact ⟨K + 1, by omega, by simp, trivial⟩
      case measure => simp [intOf]; omega
    · obtain rfl : T = K := by omega
      rcases Nat.lt_or_ge T l.length with hTL | hTL
      · have hx := takeWhile_end l at_ (by rw [← HT.out]; exact hTL)
        rw [← HT.out] at hx
        obtain ⟨b1, o1, rfl, _, _, hc1⟩ := HP.out.cells (by omega)
        obtain ⟨x1, x2⟩ := hc1 T hTL
        generalize (l.getD T (0, 0)).1 = p at *
        clear hc1
        have hk0 : (T : Int) < l.length := by omega
        have d1 : decide (p < at_) = false := decide_eq_false (by omega)
        have hcc : l.length ≤ c := HH.out.le_cap
        have hTc2 : ¬ c = T := by omega
        have hTc3 : (T : Int) ≤ c := by omega
        have hr1 : Reads (wr.alloc (.cells #[] 44)) 2 (.slice (some ⟨b1, o1 + T * 2, none⟩) (l.length - T) (c - T)) (l.length - T) ((itemCells l).drop (T * 2)) := by
          have := Reads.tail (HH.out.row.alloc (.cells #[] 44)) (item_one l) T (by omega)
          rw [if_neg hTc2] at this
          simpa [Addr.add_lit] using this
        have HC := Lib.hid (refPut_cells l at_ x T HT.out)
        have ca : (wr.alloc (.cells #[] 44)).cell? ⟨M, 2, none⟩ = some (.slice (some ⟨b1, o1, none⟩) l.length c) := by
          rw [← c2]
          exact World.cell?_of_block (alloc_old' _ (block_lt HH.out.hM))
        have hTc : (T : Int) ≤ l.length := by omega
        have hcells := HC.out
        have hown0 : (wr.alloc (.cells #[] 44)).ownsRow wr.heap.size 44 2 (.slice (some ⟨wr.heap.size, 0, none⟩) 0 0) 0 [] := ⟨rfl, .inr ⟨_, 0, #[], rfl, Nat.le_refl _, alloc_new _ _, Nat.le_refl _, Nat.zero_le _, rfl, rfl⟩⟩
        have hMl := block_lt HH.out.hM
        have hone1 : ∀ u ∈ ([] : List Value) ++ (itemCells l).drop (T * 2), u.oneCell' = true := fun u hu => hr1.one u (by rw [List.nil_append] at hu; exact hu)
        clear hcells
        go_wp2_with (first
          | (at_builtin; refine wpList_append_reads _ rfl (.tmp 55) (.tmp 61) 28 rfl wr.heap.size 44 i0 _ 2 16 Try.underlying28 hi hz0 hz1 hz2 rfl (by decide) (.slice (some ⟨wr.heap.size, 0, none⟩) 0 0) 0 [] rfl hown0 _ (l.length - T) _ rfl hr1 (by simp only [maxLen]; omega) (by omega) (by simp) ?_; intro v1 w2 hown1 hgr1; have ho2 : Only (fun _ => False) wr w2 := only_grown ((Only.refl _ _).alloc _) hgr1 (fun k hk => .inr (own_block hown0 hk)); have H2 := HH.out.kept ho2 (fun _ h => h.elim); have c22 := H2.c2)
          | (at_builtin; refine wpList_append_head _ rfl (.tmp 70) (.tmp 74) 28 rfl lo 44 i0 _ 2 16 Try.underlying28 hi hz0 hz1 hz2 rfl (by decide) _ l.length c (itemCells l) T hTl rfl (H2.row.alloc _) ⟨w2.heap.size, 0, none⟩ 1 1 [.int .i64 at_, .int .i64 x] rfl rfl (cell_two_at _ _ rfl _ _ _) (by simp [Value.oneCell']) (by decide) (by simp only [maxLen]; omega) (by omega) ?_; intro v2 w3 hown2 hgr2; have ho3 : Only (fun _ => False) wr w3 := only_grown (ho2.alloc _) hgr2 (fun k hk => by cases hk); have hr3 := Reads.of_own (ownsRow_kept hown1 (only_grown (S := fun _ => False) ((Only.refl _ w2).alloc _) hgr2 (fun k hk => by cases hk)) (fun _ h => h.elim)) hone1)
          | (at_builtin; refine wpList_append_reads _ rfl (.tmp 75) (.tmp 76) 28 rfl _ 44 i0 _ 2 16 Try.underlying28 hi hz0 hz1 hz2 rfl (by decide) v2 (T + 1) _ rfl hown2 v1 _ _ rfl hr3 (by simp only [maxLen]; omega) (by omega) hgr2.size ?_; intro v3 w4 hown3 hgr3; obtain ⟨A3, c3, rfl⟩ := own_form hown3; have ho4 : Only (fun _ => False) wr w4 := only_grown ho3 hgr3 (fun k hk => .inr (Nat.le_trans (Nat.le_trans ho2.size (by simp)) (own_block hown2 hk))); have H4 := HH.out.kept ho4 (fun _ h => h.elim); have c42 := H4.c2; have f42 := H4.fr 2))
        go_ret
        have hlo4 : M < (w2.alloc (.cells #[.int .i64 at_, .int .i64 x] 44)).heap.size := by
          have := ho2.size
          rw [World.size_alloc]
          omega
        have hend := H4.items (l' := refPut l at_ x) hown3 (by have := refPut_length l at_ x; first | omega | (simp only [List.length_nil] at this; omega)) (by rw [HC.out, List.nil_append]) (by omega) hlo4
        simp only [Nat.zero_add] at hend
        refine ⟨rfl, hend, ?_⟩
        exact (HO.trans (ho4.mono (fun _ h => h.elim))).setCell _ _ (.inl rfl)
      · obtain rfl : l.length = T := by omega
        have hcc : l.length ≤ c := HH.out.le_cap
        have HC := Lib.hid (refPut_cells_end l at_ x HT.out)
        have hTc3 : (l.length : Int) ≤ c := by omega
        cases A with
        | none =>
          obtain ⟨hl0, rfl⟩ := HH.out.bare
          obtain rfl : l = [] := List.eq_nil_of_length_eq_zero hl0
          simp only [List.length_nil] at *
          have hr1 : Reads (wr.alloc (.cells #[] 44)) 2 (.slice none 0 0) 0 [] := ⟨rfl, (fun u h => by cases h), .inr ⟨rfl, rfl⟩⟩
          have ca : (wr.alloc (.cells #[] 44)).cell? ⟨M, 2, none⟩ = some (.slice none 0 0) := by
            rw [← c2]
            exact World.cell?_of_block (alloc_old' _ (block_lt HH.out.hM))
          have hTc : (0 : Int) ≤ 0 := by omega
          have hcells := HC.out
          have hown0 : (wr.alloc (.cells #[] 44)).ownsRow wr.heap.size 44 2 (.slice (some ⟨wr.heap.size, 0, none⟩) 0 0) 0 [] := ⟨rfl, .inr ⟨_, 0, #[], rfl, Nat.le_refl _, alloc_new _ _, Nat.le_refl _, Nat.zero_le _, rfl, rfl⟩⟩
          have hMl := block_lt HH.out.hM
          have hone1 : ∀ u ∈ ([] : List Value) ++ [], u.oneCell' = true := fun u hu => hr1.one u (by rw [List.nil_append] at hu; exact hu)
          clear hcells
          go_wp2_with (first
            | (at_builtin; refine wpList_append_reads _ rfl (.tmp 55) (.tmp 61) 28 rfl wr.heap.size 44 i0 _ 2 16 Try.underlying28 hi hz0 hz1 hz2 rfl (by decide) (.slice (some ⟨wr.heap.size, 0, none⟩) 0 0) 0 [] rfl hown0 _ 0 _ rfl hr1 (by simp only [maxLen]; omega) (by omega) (by simp) ?_; intro v1 w2 hown1 hgr1; have ho2 : Only (fun _ => False) wr w2 := only_grown ((Only.refl _ _).alloc _) hgr1 (fun k hk => .inr (own_block hown0 hk)); have H2 := HH.out.kept ho2 (fun _ h => h.elim); have c22 := H2.c2)
            | (at_builtin; refine wpList_append_head _ rfl (.tmp 70) (.tmp 74) 28 rfl lo 44 i0 _ 2 16 Try.underlying28 hi hz0 hz1 hz2 rfl (by decide) _ 0 0 (itemCells []) 0 hTl rfl (H2.row.alloc _) ⟨w2.heap.size, 0, none⟩ 1 1 [.int .i64 at_, .int .i64 x] rfl rfl (cell_two_at _ _ rfl _ _ _) (by simp [Value.oneCell']) (by decide) (by simp only [maxLen]; omega) (by omega) ?_; intro v2 w3 hown2 hgr2; have ho3 : Only (fun _ => False) wr w3 := only_grown (ho2.alloc _) hgr2 (fun k hk => by cases hk); have hr3 := Reads.of_own (ownsRow_kept hown1 (only_grown (S := fun _ => False) ((Only.refl _ w2).alloc _) hgr2 (fun k hk => by cases hk)) (fun _ h => h.elim)) hone1)
            | (at_builtin; refine wpList_append_reads _ rfl (.tmp 75) (.tmp 76) 28 rfl _ 44 i0 _ 2 16 Try.underlying28 hi hz0 hz1 hz2 rfl (by decide) v2 (0 + 1) _ rfl hown2 v1 _ _ rfl hr3 (by simp only [maxLen]; omega) (by omega) hgr2.size ?_; intro v3 w4 hown3 hgr3; obtain ⟨A3, c3, rfl⟩ := own_form hown3; have ho4 : Only (fun _ => False) wr w4 := only_grown ho3 hgr3 (fun k hk => .inr (Nat.le_trans (Nat.le_trans ho2.size (by simp)) (own_block hown2 hk))); have H4 := HH.out.kept ho4 (fun _ h => h.elim); have c42 := H4.c2; have f42 := H4.fr 2))
          go_ret
          have hlo4 : M < (w2.alloc (.cells #[.int .i64 at_, .int .i64 x] 44)).heap.size := by
            have := ho2.size
            rw [World.size_alloc]
            omega
          have hend := H4.items (l' := refPut [] at_ x) hown3 (by have := refPut_length [] at_ x; first | omega | (simp only [List.length_nil] at this; omega)) (by rw [HC.out, List.nil_append]) (by omega) hlo4
          simp only [Nat.zero_add] at hend
          refine ⟨rfl, hend, ?_⟩
          exact (HO.trans (ho4.mono (fun _ h => h.elim))).setCell _ _ (.inl rfl)
        | some b =>
          obtain ⟨b1, rfl⟩ := HH.out.form
          by_cases hcT : c = l.length
          · subst hcT
            have hr1 : Reads (wr.alloc (.cells #[] 44)) 2 (.slice (some ⟨b1, 0, none⟩) 0 0) 0 [] := ⟨rfl, (fun u h => by cases h), .inl ⟨_, _, rfl, (fun j u h => by cases h)⟩⟩
            have ca : (wr.alloc (.cells #[] 44)).cell? ⟨M, 2, none⟩ = some (.slice (some ⟨b1, 0, none⟩) l.length l.length) := by
              rw [← c2]
              exact World.cell?_of_block (alloc_old' _ (block_lt HH.out.hM))
            have hTc : (l.length : Int) ≤ l.length := by omega
            have hcells := HC.out
            have hown0 : (wr.alloc (.cells #[] 44)).ownsRow wr.heap.size 44 2 (.slice (some ⟨wr.heap.size, 0, none⟩) 0 0) 0 [] := ⟨rfl, .inr ⟨_, 0, #[], rfl, Nat.le_refl _, alloc_new _ _, Nat.le_refl _, Nat.zero_le _, rfl, rfl⟩⟩
            have hMl := block_lt HH.out.hM
            have hone1 : ∀ u ∈ ([] : List Value) ++ [], u.oneCell' = true := fun u hu => hr1.one u (by rw [List.nil_append] at hu; exact hu)
            clear hcells
            go_wp2_with (first
              | (at_builtin; refine wpList_append_reads _ rfl (.tmp 55) (.tmp 61) 28 rfl wr.heap.size 44 i0 _ 2 16 Try.underlying28 hi hz0 hz1 hz2 rfl (by decide) (.slice (some ⟨wr.heap.size, 0, none⟩) 0 0) 0 [] rfl hown0 _ 0 _ rfl hr1 (by simp only [maxLen]; omega) (by omega) (by simp) ?_; intro v1 w2 hown1 hgr1; have ho2 : Only (fun _ => False) wr w2 := only_grown ((Only.refl _ _).alloc _) hgr1 (fun k hk => .inr (own_block hown0 hk)); have H2 := HH.out.kept ho2 (fun _ h => h.elim); have c22 := H2.c2)
              | (at_builtin; refine wpList_append_head _ rfl (.tmp 70) (.tmp 74) 28 rfl lo 44 i0 _ 2 16 Try.underlying28 hi hz0 hz1 hz2 rfl (by decide) _ l.length l.length (itemCells l) l.length hTl rfl (H2.row.alloc _) ⟨w2.heap.size, 0, none⟩ 1 1 [.int .i64 at_, .int .i64 x] rfl rfl (cell_two_at _ _ rfl _ _ _) (by simp [Value.oneCell']) (by decide) (by simp only [maxLen]; omega) (by omega) ?_; intro v2 w3 hown2 hgr2; have ho3 : Only (fun _ => False) wr w3 := only_grown (ho2.alloc _) hgr2 (fun k hk => by cases hk); have hr3 := Reads.of_own (ownsRow_kept hown1 (only_grown (S := fun _ => False) ((Only.refl _ w2).alloc _) hgr2 (fun k hk => by cases hk)) (fun _ h => h.elim)) hone1)
              | (at_builtin; refine wpList_append_reads _ rfl (.tmp 75) (.tmp 76) 28 rfl _ 44 i0 _ 2 16 Try.underlying28 hi hz0 hz1 hz2 rfl (by decide) v2 (l.length + 1) _ rfl hown2 v1 _ _ rfl hr3 (by simp only [maxLen]; omega) (by omega) hgr2.size ?_; intro v3 w4 hown3 hgr3; obtain ⟨A3, c3, rfl⟩ := own_form hown3; have ho4 : Only (fun _ => False) wr w4 := only_grown ho3 hgr3 (fun k hk => .inr (Nat.le_trans (Nat.le_trans ho2.size (by simp)) (own_block hown2 hk))); have H4 := HH.out.kept ho4 (fun _ h => h.elim); have c42 := H4.c2; have f42 := H4.fr 2))
            go_ret
            have hlo4 : M < (w2.alloc (.cells #[.int .i64 at_, .int .i64 x] 44)).heap.size := by
              have := ho2.size
              rw [World.size_alloc]
              omega
            have hend := H4.items (l' := refPut l at_ x) hown3 (by have := refPut_length l at_ x; first | omega | (simp only [List.length_nil] at this; omega)) (by rw [HC.out, List.nil_append]) (by omega) hlo4
            simp only [Nat.zero_add] at hend
            refine ⟨rfl, hend, ?_⟩
            exact (HO.trans (ho4.mono (fun _ h => h.elim))).setCell _ _ (.inl rfl)
          · have hr1 : Reads (wr.alloc (.cells #[] 44)) 2 (.slice (some ⟨b1, l.length * 2, none⟩) 0 (c - l.length)) 0 [] := ⟨rfl, (fun u h => by cases h), .inl ⟨_, _, rfl, (fun j u h => by cases h)⟩⟩
            have ca : (wr.alloc (.cells #[] 44)).cell? ⟨M, 2, none⟩ = some (.slice (some ⟨b1, 0, none⟩) l.length c) := by
              rw [← c2]
              exact World.cell?_of_block (alloc_old' _ (block_lt HH.out.hM))
            have hTc : (l.length : Int) ≤ l.length := by omega
            have hcells := HC.out
            have hown0 : (wr.alloc (.cells #[] 44)).ownsRow wr.heap.size 44 2 (.slice (some ⟨wr.heap.size, 0, none⟩) 0 0) 0 [] := ⟨rfl, .inr ⟨_, 0, #[], rfl, Nat.le_refl _, alloc_new _ _, Nat.le_refl _, Nat.zero_le _, rfl, rfl⟩⟩
            have hMl := block_lt HH.out.hM
            have hone1 : ∀ u ∈ ([] : List Value) ++ [], u.oneCell' = true := fun u hu => hr1.one u (by rw [List.nil_append] at hu; exact hu)
            clear hcells
            go_wp2_with (first
              | (at_builtin; refine wpList_append_reads _ rfl (.tmp 55) (.tmp 61) 28 rfl wr.heap.size 44 i0 _ 2 16 Try.underlying28 hi hz0 hz1 hz2 rfl (by decide) (.slice (some ⟨wr.heap.size, 0, none⟩) 0 0) 0 [] rfl hown0 _ 0 _ rfl hr1 (by simp only [maxLen]; omega) (by omega) (by simp) ?_; intro v1 w2 hown1 hgr1; have ho2 : Only (fun _ => False) wr w2 := only_grown ((Only.refl _ _).alloc _) hgr1 (fun k hk => .inr (own_block hown0 hk)); have H2 := HH.out.kept ho2 (fun _ h => h.elim); have c22 := H2.c2)
              | (at_builtin; refine wpList_append_head _ rfl (.tmp 70) (.tmp 74) 28 rfl lo 44 i0 _ 2 16 Try.underlying28 hi hz0 hz1 hz2 rfl (by decide) _ l.length c (itemCells l) l.length hTl rfl (H2.row.alloc _) ⟨w2.heap.size, 0, none⟩ 1 1 [.int .i64 at_, .int .i64 x] rfl rfl (cell_two_at _ _ rfl _ _ _) (by simp [Value.oneCell']) (by decide) (by simp only [maxLen]; omega) (by omega) ?_; intro v2 w3 hown2 hgr2; have ho3 : Only (fun _ => False) wr w3 := only_grown (ho2.alloc _) hgr2 (fun k hk => by cases hk); have hr3 := Reads.of_own (ownsRow_kept hown1 (only_grown (S := fun _ => False) ((Only.refl _ w2).alloc _) hgr2 (fun k hk => by cases hk)) (fun _ h => h.elim)) hone1)
              | (at_builtin; refine wpList_append_reads _ rfl (.tmp 75) (.tmp 76) 28 rfl _ 44 i0 _ 2 16 Try.underlying28 hi hz0 hz1 hz2 rfl (by decide) v2 (l.length + 1) _ rfl hown2 v1 _ _ rfl hr3 (by simp only [maxLen]; omega) (by omega) hgr2.size ?_; intro v3 w4 hown3 hgr3; obtain ⟨A3, c3, rfl⟩ := own_form hown3; have ho4 : Only (fun _ => False) wr w4 := only_grown ho3 hgr3 (fun k hk => .inr (Nat.le_trans (Nat.le_trans ho2.size (by simp)) (own_block hown2 hk))); have H4 := HH.out.kept ho4 (fun _ h => h.elim); have c42 := H4.c2; have f42 := H4.fr 2))
            go_ret
            have hlo4 : M < (w2.alloc (.cells #[.int .i64 at_, .int .i64 x] 44)).heap.size := by
              have := ho2.size
              rw [World.size_alloc]
              omega
            have hend := H4.items (l' := refPut l at_ x) hown3 (by have := refPut_length l at_ x; first | omega | (simp only [List.length_nil] at this; omega)) (by rw [HC.out, List.nil_append]) (by omega) hlo4
            simp only [Nat.zero_add] at hend
            refine ⟨rfl, hend, ?_⟩
            exact (HO.trans (ho4.mono (fun _ h => h.elim))).setCell _ _ (.inl rfl)
end Go.Proofs.Ythjcomekfiibnaa
