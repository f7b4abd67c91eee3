/- Chapter 5: Eval's stack, the two closures, Eval. -/
import Derived.Test.YtecdnpdmjbcioaaPred
import Derived.Deep.DeepCutAuto
import Derived.Deep.CutBlock
import Derived.Deep.RegionHeld3
import Derived.Deep.RegionLaw
namespace Go.Proofs.Ytecdnpdmjbcioaa
open Go.RowKit
set_option linter.unusedVariables false
set_option linter.unusedSimpArgs false

def ints (l : List Int) : List Value := l.map (Value.int .i64)
theorem ints_one (l : List Int) : ∀ u ∈ ints l, u.oneCell' = true := by
  intro u hu
  obtain ⟨z, _, rfl⟩ := List.mem_map.1 hu
  rfl
/-- The stack and the flag: in block S a slice of st, in block O ok; the stack's row lies from lo on, behind both. -/
structure StAt (w : World) (lo S O : Nat) (st : List Int) (ok : Bool) (A : Option Addr) (c : Nat) : Prop where
  hS : w.heap[S]? = some (.cells [.slice A st.length c].toArray 120 (0, 0))
  hO : w.heap[O]? = some (.cells [.bool ok].toArray 4 (0, 0))
  row : w.ownsRow lo 2 1 (.slice A st.length c) st.length (ints st)
  lS : S < lo
  lO : O < lo
  ne : S ≠ O
theorem StAt.cS {w : World} {lo S O : Nat} {st : List Int} {ok : Bool} {A : Option Addr} {c : Nat} (h : StAt w lo S O st ok A c) : w.cell? ⟨S, 0, none⟩ = some (.slice A st.length c) := cell_of_blk h.hS 0
theorem StAt.cO {w : World} {lo S O : Nat} {st : List Int} {ok : Bool} {A : Option Addr} {c : Nat} (h : StAt w lo S O st ok A c) : w.cell? ⟨O, 0, none⟩ = some (.bool ok) := cell_of_blk h.hO 0
theorem StAt.fS {w : World} {lo S O : Nat} {st : List Int} {ok : Bool} {A : Option Addr} {c : Nat} (h : StAt w lo S O st ok A c) : w.frozen? ⟨S, 0, none⟩ = false := free_of_blk h.hS 0
theorem StAt.fO {w : World} {lo S O : Nat} {st : List Int} {ok : Bool} {A : Option Addr} {c : Nat} (h : StAt w lo S O st ok A c) : w.frozen? ⟨O, 0, none⟩ = false := free_of_blk h.hO 0
theorem StAt.kept {T : Nat → Prop} {w w' : World} {lo S O : Nat} {st : List Int} {ok : Bool} {A : Option Addr} {c : Nat} (h : StAt w lo S O st ok A c) (k : Only T w w') (h1 : ¬ T S) (h2 : ¬ T O) (h3 : ∀ i, T i → (Value.slice A st.length c).ownBlock ≠ some i) : StAt w' lo S O st ok A c :=
  ⟨k.block h.hS h1, k.block h.hO h2, ownsRow_kept h.row k h3, h.lS, h.lO, h.ne⟩
theorem StAt.drewN {w : World} {lo S O : Nat} {st : List Int} {ok : Bool} {A : Option Addr} {c : Nat} (h : StAt w lo S O st ok A c) (j : Nat) : StAt (w.drewN j) lo S O st ok A c := ⟨h.hS, h.hO, h.row, h.lS, h.lO, h.ne⟩
/-- Behind a new slice in S: its row owned. -/
theorem st_sliced {w : World} {lo S O : Nat} {st' : List Int} {ok : Bool} {N : Nat} {v v0 : Value} {xs : List Value} (hS : w.heap[S]? = some (.cells [v0].toArray 120 (0, 0))) (hO : w.heap[O]? = some (.cells [.bool ok].toArray 4 (0, 0))) (lS : S < lo) (lO : O < lo) (ne : S ≠ O)
    (hown : w.ownsRow lo 2 1 v N xs) (hN : N = st'.length) (hxs : xs = ints st') :
    ∃ A' c', StAt (w.setCell ⟨S, 0, none⟩ v) lo S O st' ok A' c' := by
  subst hN hxs
  obtain ⟨A', c', rfl⟩ := own_form hown
  refine ⟨A', c', setCell_same hS _, setCell_other hO ne.symm _, ?_, lS, lO, ne⟩
  refine ownsRow_kept (S := fun b => b = S) hown ((Only.refl _ _).setCell _ _ (.inl rfl)) ?_
  rintro i rfl hk
  have := own_block hown hk
  omega
theorem StAt.oked {w : World} {lo S O : Nat} {st : List Int} {ok : Bool} {A : Option Addr} {c : Nat} (h : StAt w lo S O st ok A c) (ok' : Bool) : StAt (w.setCell ⟨O, 0, none⟩ (.bool ok')) lo S O st ok' A c := by
  refine ⟨setCell_other h.hS h.ne _, setCell_same h.hO _, ?_, h.lS, h.lO, h.ne⟩
  refine ownsRow_kept (S := fun b => b = O) h.row ((Only.refl _ _).setCell _ _ (.inl rfl)) ?_
  rintro i rfl hk
  have := own_block h.row hk
  have := h.lO
  omega
theorem StAt.swapped {w : World} {lo S O : Nat} {pre : List Int} {x : Int} {ok : Bool} {g c P1 : Nat} (h : StAt w lo S O (pre ++ [x] ++ [0]) ok (some ⟨g, 0, none⟩) c) (hP : P1 = pre.length + 1) :
    StAt ((w.setCell ⟨g, P1, none⟩ (.int .i64 x)).setCell ⟨g, pre.length, none⟩ (.int .i64 0)) lo S O (pre ++ [0, x]) ok (some ⟨g, 0, none⟩) c := by
  subst hP
  obtain ⟨g', hg, hg1, _⟩ := own_some h.row (by simp)
  injection hg with hg
  injection hg with hg _ _
  subst hg
  have lS := h.lS
  have lO := h.lO
  have hlen : (pre ++ [x] ++ [0]).length = (pre ++ [0, x]).length := by simp
  have hS := h.hS
  have hrow := ownsRow_set (ownsRow_set h.row (pre.length + 1) (.int .i64 x)) pre.length (.int .i64 0)
  have he : ((ints (pre ++ [x] ++ [0])).set (pre.length + 1) (.int .i64 x)).set pre.length (.int .i64 0) = ints (pre ++ [0, x]) := by
    simp [ints, List.set_append]
  rw [he, hlen] at hrow
  rw [hlen] at hS
  exact ⟨setCell_other (setCell_other hS (by omega) _) (by omega) _, setCell_other (setCell_other h.hO (by omega) _) (by omega) _, hrow, lS, lO, h.ne⟩
theorem infoInt : (Try.prog.info? 2).map (fun i => (i.zero, i.size, i.bytes)) = some (some (.int .i64 0), 1, 8) := by kernel_rfl
theorem cell_one_at (w : World) (n : Nat) (hn : w.heap.size = n) (x : Value) (e : TypeId) : ∀ (j : Nat) (u : Value), [x][j]? = some u → (w.alloc (.cells #[x] e)).cell? ((⟨n, 0, none⟩ : Addr).add j) = some u := by
  subst hn
  exact cell_one_new _ _ _
theorem own_addr {A : Option Addr} {n c k : Nat} (h : (Value.slice A n c).ownBlock = some k) : ∃ a, A = some a ∧ a.block = k := by
  cases A with
  | none => cases h
  | some a => injection h with h; exact ⟨a, rfl, h⟩
theorem StAt.addr {w : World} {lo S O : Nat} {st : List Int} {ok : Bool} {A : Option Addr} {c : Nat} (h : StAt w lo S O st ok A c) {a : Addr} (ha : A = some a) : lo ≤ a.block ∧ a.block < w.heap.size := by
  subst ha
  rcases h.row.2 with ⟨hv, _⟩ | ⟨g, cap, cur, hv, hb, hg, _⟩
  · cases hv
  · injection hv with h1 _ _
    injection h1 with h1
    subst h1
    exact ⟨hb, block_lt hg⟩
set_option maxHeartbeats 1000000 in
theorem put_st {w : World} {lo S O : Nat} {st : List Int} {ok : Bool} {A : Option Addr} {c : Nat} (h : StAt w lo S O st ok A c) (n : Int) (is : Bool) (hlen : st.length ≤ 1000000) (hlo : lo ≤ w.heap.size) :
    Calls Try.prog 84 #[.int .i64 n, .bool is, .pointer (some ⟨O, 0, none⟩), .pointer (some ⟨S, 0, none⟩)] w fun e w' => e = .returned (.tuple #[]) ∧ (∃ A' c', StAt w' lo S O (st ++ [n]) (ok && is) A' c') ∧ Only (fun b => b = S ∨ b = O ∨ ∃ a, A = some a ∧ a.block = b) w w' := by
  have cO := h.cO
  have cS := h.cS
  have fO := h.fO
  have fS := h.fS
  have lS := h.lS
  have lO := h.lO
  have hne := h.ne
  obtain ⟨i0, hi, hz0, hz1, hz2⟩ := info_parts infoInt
  have H := Lib.hid h
  clear h
  cases ok
  · go_enter Try.func84, Try.ntmps84
    have H1 := H.out.oked false
    have l1 := block_lt H1.hS
    have l2 := block_lt H1.hO
    have hlo1 : lo ≤ ((w.setCell ⟨O, 0, none⟩ (.bool false)).alloc (.cells #[.int .i64 n] 2)).heap.size := by simp; omega
    go_wp2_with (at_builtin; refine wpList_append_own _ rfl (.tmp 10) (.tmp 12) 120 rfl lo 2 i0 _ 1 8 Try.underlying120 hi hz0 hz1 hz2 rfl (by decide) (.slice A st.length c) st.length (ints st) rfl (H1.row.alloc _) ⟨w.heap.size, 0, none⟩ 1 1 [.int .i64 n] rfl rfl (cell_one_at _ _ (by simp) _ _) (by simp [Value.oneCell']) (by simp only [maxLen]; omega) (by omega) hlo1 ?_; intro v w2 hown hgr _; obtain ⟨A2, c2, rfl⟩ := own_form hown; have hS2 := (hgr.block S (by simp; omega) (fun e => by have := own_block H1.row e.symm; omega)).trans (alloc_old H1.hS _); have hO2 := (hgr.block O (by simp; omega) (fun e => by have := own_block H1.row e.symm; omega)).trans (alloc_old H1.hO _); have cS2 : w2.cell? ⟨S, 0, none⟩ = some (.slice A st.length c) := cell_of_blk hS2 0; have fS2 : w2.frozen? ⟨S, 0, none⟩ = false := free_of_blk hS2 0)
    go_end0
    refine ⟨rfl, st_sliced (st' := st ++ [n]) hS2 hO2 lS lO hne hown (by simp) (by simp [ints]), ?_⟩
    refine Only.setCell ?_ _ _ (.inl (.inl rfl))
    exact only_grown (((Only.refl _ w).setCell _ _ (.inl (.inr (.inl rfl)))).alloc _) hgr (fun k hk => .inl (.inr (.inr (own_addr hk))))
  · go_enter Try.func84, Try.ntmps84
    have H1 := H.out.oked is
    have l1 := block_lt H1.hS
    have l2 := block_lt H1.hO
    have hlo1 : lo ≤ ((w.setCell ⟨O, 0, none⟩ (.bool is)).alloc (.cells #[.int .i64 n] 2)).heap.size := by simp; omega
    go_wp2_with (at_builtin; refine wpList_append_own _ rfl (.tmp 10) (.tmp 12) 120 rfl lo 2 i0 _ 1 8 Try.underlying120 hi hz0 hz1 hz2 rfl (by decide) (.slice A st.length c) st.length (ints st) rfl (H1.row.alloc _) ⟨w.heap.size, 0, none⟩ 1 1 [.int .i64 n] rfl rfl (cell_one_at _ _ (by simp) _ _) (by simp [Value.oneCell']) (by simp only [maxLen]; omega) (by omega) hlo1 ?_; intro v w2 hown hgr _; obtain ⟨A2, c2, rfl⟩ := own_form hown; have hS2 := (hgr.block S (by simp; omega) (fun e => by have := own_block H1.row e.symm; omega)).trans (alloc_old H1.hS _); have hO2 := (hgr.block O (by simp; omega) (fun e => by have := own_block H1.row e.symm; omega)).trans (alloc_old H1.hO _); have cS2 : w2.cell? ⟨S, 0, none⟩ = some (.slice A st.length c) := cell_of_blk hS2 0; have fS2 : w2.frozen? ⟨S, 0, none⟩ = false := free_of_blk hS2 0)
    go_end0
    refine ⟨rfl, st_sliced (st' := st ++ [n]) hS2 hO2 lS lO hne hown (by simp) (by simp [ints]), ?_⟩
    refine Only.setCell ?_ _ _ (.inl (.inl rfl))
    exact only_grown (((Only.refl _ w).setCell _ _ (.inl (.inr (.inl rfl)))).alloc _) hgr (fun k hk => .inl (.inr (.inr (own_addr hk))))

theorem pop_none {w : World} {lo S O : Nat} {ok : Bool} {A : Option Addr} {c : Nat} (h : StAt w lo S O [] ok A c) :
    Calls Try.prog 85 #[.pointer (some ⟨S, 0, none⟩), .pointer (some ⟨O, 0, none⟩)] w fun e w' => e = .returned (.int .i64 0) ∧ StAt w' lo S O [] false A c ∧ Only (fun b => b = S ∨ b = O) w w' := by
  have cS : w.cell? ⟨S, 0, none⟩ = some (.slice A 0 c) := h.cS
  have cO := h.cO
  have fO := h.fO
  have H := Lib.hid h
  clear h
  go_enter Try.func85, Try.ntmps85
  go_wp2
  go_ret
  exact ⟨rfl, H.out.oked false, (Only.refl _ w).setCell _ _ (.inl (.inr rfl))⟩
theorem pop_some {w : World} {lo S O : Nat} {st : List Int} {x : Int} {ok : Bool} {A : Option Addr} {c : Nat} (h : StAt w lo S O (st ++ [x]) ok A c) (hlen : st.length ≤ 1000000) :
    Calls Try.prog 85 #[.pointer (some ⟨S, 0, none⟩), .pointer (some ⟨O, 0, none⟩)] w fun e w' => e = .returned (.int .i64 x) ∧ StAt w' lo S O st ok A c ∧ Only (fun b => b = S ∨ b = O) w w' := by
  obtain ⟨L, hL⟩ : ∃ L, L = (st ++ [x]).length := ⟨_, rfl⟩
  have hL1 : L = st.length + 1 := by rw [hL]; simp
  have cS := h.cS
  have fS := h.fS
  have lS := h.lS
  have lO := h.lO
  have hne := h.ne
  obtain ⟨g, rfl, hg1, hg2, hg3, hgc⟩ := own_some h.row (by omega)
  have x1 := hgc st.length (.int .i64 x) (by simp [ints])
  rw [← hL] at cS hg2
  have s1 : IntKind.i64.wrap ((L : Int) - 1) = (st.length : Int) := (IntWalk.i64_in _ (by omega)).trans (by omega)
  have d1 : ((L : Int) == 0) = false := by simp; omega
  have b1 : (st.length : Int) < L := by omega
  have b2 : (st.length : Int) ≤ c := by omega
  have b3 : ¬ c = 0 := by omega
  have hS := h.hS
  have hO := h.hO
  have hrow := ownsRow_take h.row st.length (by simp)
  have he : (ints (st ++ [x])).take (st.length * 1) = ints st := by simp [ints]
  have HL := Lib.hid hL
  have H := Lib.hid h
  clear hL1 hL h hgc
  go_enter Try.func85, Try.ntmps85
  clear he hrow
  go_wp2
  go_ret
  refine ⟨rfl, ⟨setCell_same hS _, setCell_other hO hne.symm _, ?_, lS, lO, hne⟩, (Only.refl _ w).setCell _ _ (.inl (.inl rfl))⟩
  have hrow := ownsRow_take H.out.row st.length (by simp)
  have he : (ints (st ++ [x])).take (st.length * 1) = ints st := by simp [ints]
  rw [he] at hrow
  refine ownsRow_kept (S := fun b => b = S) hrow ((Only.refl _ _).setCell _ _ (.inl rfl)) ?_
  rintro i rfl hk
  have := own_block hrow hk
  omega
theorem pop_st {w : World} {lo S O : Nat} {st : List Int} {ok : Bool} {A : Option Addr} {c : Nat} (h : StAt w lo S O st ok A c) (hlen : st.length ≤ 1000000) :
    Calls Try.prog 85 #[.pointer (some ⟨S, 0, none⟩), .pointer (some ⟨O, 0, none⟩)] w fun e w' => e = .returned (.int .i64 (st.getLast?.getD 0)) ∧ StAt w' lo S O st.dropLast (ok && !st.isEmpty) A c ∧ Only (fun b => b = S ∨ b = O) w w' := by
  rcases List.eq_nil_or_concat st with rfl | ⟨pre, x, rfl⟩
  · have := pop_none h
    simpa using this
  · rw [List.concat_eq_append] at *
    have := pop_some h (by simp at hlen; omega)
    have he : (pre ++ [x]).isEmpty = false := by simp
    rw [he]
    simpa using this

/-- A code, as plain values. -/
structure CodeV where
  op : Int
  n : Int
  var : ByteArray
  field : Int
  at_ : Int
def CodeV.cells (c : CodeV) : List Value := [.int .i64 c.op, .int .i64 c.n, .string c.var, .int .i64 c.field, .int .i64 c.at_]
def CodeV.zero : CodeV := ⟨0, 0, ByteArray.empty, 0, 0⟩
structure CodesAt (w : World) (A : Option Addr) (n : Nat) (cs : List CodeV) : Prop where
  len : cs.length = n
  cells : 0 < n → ∃ b off, A = some ⟨b, off, none⟩ ∧ b < w.heap.size ∧ ∀ i, i < n → ∀ j, j < 5 → w.cell? ⟨b, off + i * 5 + j, none⟩ = (cs.getD i CodeV.zero).cells[j]?
theorem CodesAt.below {w w' : World} {A : Option Addr} {n : Nat} {cs : List CodeV} (h : CodesAt w A n cs) (hb : Below w.heap.size w w') : CodesAt w' A n cs := by
  refine ⟨h.len, fun hp => ?_⟩
  obtain ⟨b, off, rfl, h2, hc⟩ := h.cells hp
  exact ⟨b, off, rfl, Nat.lt_of_lt_of_le h2 hb.size, fun i hi j hj => (World.cell?_of_block (hb.block b h2)).trans (hc i hi j hj)⟩

/-- Eval's steps. -/
def evalDo (op : Int) (s : List Int × Bool) : List Int × Bool :=
  let r := doNum op (s.1.dropLast.getLast?.getD 0) (s.1.getLast?.getD 0)
  (s.1.dropLast.dropLast ++ [r.1], ((s.2 && !s.1.isEmpty) && !s.1.dropLast.isEmpty) && r.2)
def evalNeg (s : List Int × Bool) : List Int × Bool := (if s.1 = [] then [0] else s.1.dropLast ++ [0, s.1.getLast?.getD 0], s.2 && !s.1.isEmpty)
def evalOne (ss : List (List Ev)) (s : List Int × Bool) (c : CodeV) : List Int × Bool :=
  if c.op = 6 then (s.1 ++ [c.n], s.2 && true)
  else if c.op = 8 then (s.1 ++ [((setOf ss c.at_).length : Int)], s.2 && true)
  else if c.op = 7 then
    (if 0 < (setOf ss c.at_).length ∧ 0 ≤ c.field ∧ c.field < 4 then (s.1 ++ [(lastOf ss c.at_).num c.field], s.2 && true) else (s.1 ++ [0], s.2 && false))
  else if c.op = 9 then evalDo 2 (evalNeg s) else evalDo c.op s
def evalRun (ss : List (List Ev)) (cs : List CodeV) : List Int × Bool := cs.foldl (evalOne ss) ([], true)
def evalRes (ss : List (List Ev)) (cs : List CodeV) : Int × Bool := if (evalRun ss cs).2 = true ∧ (evalRun ss cs).1.length = 1 then ((evalRun ss cs).1.headD 0, true) else (0, false)
theorem evalNeg_snoc (pre : List Int) (x : Int) (ok : Bool) : evalNeg (pre ++ [x], ok) = (pre ++ [0, x], ok) := by
  simp [evalNeg]
theorem evalDo_snoc2 (op : Int) (pre : List Int) (a b : Int) (ok : Bool) : evalDo op (pre ++ [a, b], ok) = ((pre ++ [a, b]).dropLast.dropLast ++ [(doNum op a b).1], ok && !(pre ++ [a, b]).isEmpty && !(pre ++ [a, b]).dropLast.isEmpty && (doNum op a b).2) := by
  have h1 : pre ++ [a, b] = (pre ++ [a]) ++ [b] := by simp
  have h2 : (pre ++ [a, b]).getLast?.getD 0 = b := by rw [h1]; simp
  have h3 : (pre ++ [a, b]).dropLast.getLast?.getD 0 = a := by rw [h1, List.dropLast_concat]; simp
  unfold evalDo
  simp only [h2, h3]
theorem evalDo_length (op : Int) (s : List Int × Bool) : (evalDo op s).1.length ≤ s.1.length + 1 := by
  simp only [evalDo, List.length_append, List.length_dropLast, List.length_cons, List.length_nil]
  omega
theorem evalOne_length (ss : List (List Ev)) (s : List Int × Bool) (c : CodeV) : (evalOne ss s c).1.length ≤ s.1.length + 1 := by
  unfold evalOne
  split
  · simp
  split
  · simp
  split
  · split <;> simp
  split
  · refine Nat.le_trans (Nat.le_of_eq (show _ = _ from rfl)) ?_
    have : (evalNeg s).1.length ≤ s.1.length + 1 := by
      unfold evalNeg
      simp only
      split
      · simp
      · rename_i hne
        have := List.length_pos_iff.2 hne
        simp
        omega
    simp only [evalDo, List.length_append, List.length_dropLast, List.length_cons, List.length_nil]
    omega
  · exact evalDo_length _ _
theorem evalRun_succ (ss : List (List Ev)) (cs : List CodeV) (k : Nat) (h : k < cs.length) : evalRun ss (cs.take (k + 1)) = evalOne ss (evalRun ss (cs.take k)) (cs.getD k CodeV.zero) := by
  unfold evalRun
  rw [List.take_succ_eq_append_getElem h, List.foldl_append, List.getD_eq_getElem?_getD, List.getElem?_eq_getElem h]
  rfl
theorem evalRun_length (ss : List (List Ev)) (cs : List CodeV) : ∀ k, k ≤ cs.length → (evalRun ss (cs.take k)).1.length ≤ k := by
  intro k
  induction k with
  | zero => intro _; simp [evalRun]
  | succ k ih =>
    intro h
    rw [evalRun_succ ss cs k (by omega)]
    have := evalOne_length ss (evalRun ss (cs.take k)) (cs.getD k CodeV.zero)
    have := ih (by omega)
    omega

set_option maxHeartbeats 4000000 in
set_option maxRecDepth 100000 in
theorem eval_any {w : World} {A B : Option Addr} {n c m c' : Nat} {cs : List CodeV} {ss : List (List Ev)} (hc : CodesAt w A n cs) (hs : SetsAt w B m ss) (hn : n ≤ 100000) (hm : m ≤ 1000000) (hms : ∀ s ∈ ss, s.length ≤ 1000000) :
    Calls Try.prog 79 #[.slice A n c, .slice B m c'] w fun e w' => e = .returned (.tuple #[.int .i64 (evalRes ss cs).1, .bool (evalRes ss cs).2]) ∧ Below w.heap.size w w' := by
  have hl := hc.len
  have HC := Lib.hid hc
  have HS := Lib.hid hs
  have HM := Lib.hid hms
  clear hc hs hms hl
  go_enter Try.func79, Try.ntmps79
  go_wp2_with fail
  obtain ⟨S, hS⟩ : ∃ S, S = w.heap.size := ⟨_, rfl⟩
  have hst0 : StAt ((w.alloc (.cells #[.slice none 0 0] 120)).alloc (.cells #[.bool true] 4)) (S + 2) S (S + 1) [] true none 0 := by
    refine ⟨?_, ?_, ⟨rfl, .inl ⟨rfl, rfl⟩⟩, by omega, by omega, by omega⟩
    · rw [hS]; exact alloc_old (alloc_new w _) _
    · rw [hS, ← World.size_alloc w]; exact alloc_new _ _
  have hb0 := bl_alloc (bl_alloc (Below.refl _ w) (.cells #[.slice none 0 0] 120)) (.cells #[.bool true] 4)
  have hz0 : S + 2 ≤ ((w.alloc (.cells #[.slice none 0 0] 120)).alloc (.cells #[.bool true] 4)).heap.size := by simp; omega
  rw [← hS]
  have hSw : w.heap.size ≤ S := by omega
  generalize (w.alloc (.cells #[.slice none 0 0] 120)).alloc (.cells #[.bool true] 4) = w0 at *
  clear hS
  go_loopw [21] (fun i wr => ∃ K : Nat, K ≤ n ∧ i = .int .i64 K ∧ Below w.heap.size w wr ∧ S + 2 ≤ wr.heap.size ∧ ∃ A' c1, StAt wr (S + 2) S (S + 1) (evalRun ss (cs.take K)).1 (evalRun ss (cs.take K)).2 A' c1) (fun i _ => n - (intOf i).toNat)
  case atStart => exact ⟨0, Nat.zero_le _, rfl, hb0, hz0, _, _, hst0⟩
  case round =>
    obtain ⟨K, hK, rfl, hb, hz, A1, c1, hst⟩ := hrel
    clear hb0 hz0 hst0
    by_cases hlt : K < n
    · have hlc := HC.out.len
      have hsucc := evalRun_succ ss cs K (by omega)
      have hlen := evalRun_length ss cs K (by omega)
      clear hlc
      obtain ⟨b1, o1, rfl, hb1, hc1⟩ := (HC.out.below hb).cells (by omega)
      have hx := hc1 K hlt
      have x0 := hx 0 (by omega)
      have x1 := hx 1 (by omega)
      have x2 := hx 2 (by omega)
      have x3 := hx 3 (by omega)
      have x4 := hx 4 (by omega)
      generalize cs.getD K CodeV.zero = cv at *
      obtain ⟨op, cn, var, field, at_⟩ := cv
      simp only [CodeV.cells, List.getElem?_cons_zero, List.getElem?_cons_succ, Nat.add_zero] at x0 x1 x2 x3 x4
      have HU := Lib.hid hsucc
      generalize evalRun ss (cs.take K) = s at *
      obtain ⟨st, ok⟩ := s
      dsimp only at hst hlen
      have hK0 : (K : Int) < n := by omega
      clear hx hc1 hsucc
      go_wp2_with fail
      have hst1 := hst.kept (T := fun _ => False) ((Only.refl _ _).alloc (.cells #[.int .i64 op, .int .i64 cn, .string var, .int .i64 field, .int .i64 at_] 56)) id id (fun _ h => h.elim)
      have hb2 := bl_alloc hb (.cells #[.int .i64 op, .int .i64 cn, .string var, .int .i64 field, .int .i64 at_] 56)
      have hz1 : S + 2 ≤ (wr.alloc (.cells #[.int .i64 op, .int .i64 cn, .string var, .int .i64 field, .int .i64 at_] 56)).heap.size := by simp; omega
      have hcb1 : (wr.alloc (.cells #[.int .i64 op, .int .i64 cn, .string var, .int .i64 field, .int .i64 at_] 56)).heap[wr.heap.size]? = some (.cells [.int .i64 op, .int .i64 cn, .string var, .int .i64 field, .int .i64 at_].toArray 56 (0, 0)) := alloc_new wr _
      have hA : ∀ a, A1 = some a → a.block < wr.heap.size := fun a ha => (hst.addr ha).2
      obtain ⟨cb, hcb⟩ : ∃ cb, wr.heap.size = cb := ⟨_, rfl⟩
      rw [hcb] at hcb1 hz hA
      rw [hcb]
      generalize wr.alloc (.cells #[.int .i64 op, .int .i64 cn, .string var, .int .i64 field, .int .i64 at_] 56) = w1 at *
      clear hcb hst hb x0 x1 x2 x3 x4 hb1
      refine (last_any (HS.out.below hb2) at_ hm HM.out).mono ?_
      rintro e w2 ⟨rfl, hbl⟩
      have hmany : (setOf ss at_).length ≤ 1000000 := by
        unfold setOf
        split
        · rw [List.getD_eq_getElem?_getD]
          by_cases hh : at_.toNat < ss.length
          · rw [List.getElem?_eq_getElem hh]; exact HM.out _ (List.getElem_mem _)
          · rw [List.getElem?_eq_none (by omega)]; simp
        · simp
      have hst2 := hst1.kept (T := fun _ => False) (Only.of_below hbl) id id (fun _ h => h.elim)
      have hb2 := bl_then hb2 hbl
      have hz2 := Nat.le_trans hz1 hbl.size
      have hcb2 := (Only.of_below (S := fun _ => False) hbl).block hcb1 id
      have l2 := block_lt hcb2
      clear hst1 hz1 hcb1 hbl
      obtain ⟨many, hmany0⟩ : ∃ many, (setOf ss at_).length = many := ⟨_, rfl⟩
      obtain ⟨le, hle0⟩ : ∃ le, lastOf ss at_ = le := ⟨_, rfl⟩
      rw [hmany0] at hmany
      rw [hmany0, hle0]
      have HMY := Lib.hid hmany0
      have HLE := Lib.hid hle0
      clear hmany0 hle0
      obtain ⟨e1, e2, e3, e4, e5, e6⟩ := le
      have hEv : (Ev.cells ⟨e1, e2, e3, e4, e5, e6⟩).toArray = #[.int .i64 e1, .int .i64 e2, .int .i64 e3, .int .i64 e4, .int .i64 e5, .int .i64 e6] := rfl
      rw [hEv]
      clear hEv
      have hst3 := hst2.kept (T := fun _ => False) ((Only.refl _ _).alloc (.cells #[.int .i64 e1, .int .i64 e2, .int .i64 e3, .int .i64 e4, .int .i64 e5, .int .i64 e6] 53)) id id (fun _ h => h.elim)
      have hb3 := bl_alloc hb2 (.cells #[.int .i64 e1, .int .i64 e2, .int .i64 e3, .int .i64 e4, .int .i64 e5, .int .i64 e6] 53)
      have hz3 : S + 2 ≤ (w2.alloc (.cells #[.int .i64 e1, .int .i64 e2, .int .i64 e3, .int .i64 e4, .int .i64 e5, .int .i64 e6] 53)).heap.size := by simp; omega
      have hcb3 := alloc_old hcb2 (.cells #[.int .i64 e1, .int .i64 e2, .int .i64 e3, .int .i64 e4, .int .i64 e5, .int .i64 e6] 53)
      have heb3 : (w2.alloc (.cells #[.int .i64 e1, .int .i64 e2, .int .i64 e3, .int .i64 e4, .int .i64 e5, .int .i64 e6] 53)).heap[w2.heap.size]? = some (.cells [.int .i64 e1, .int .i64 e2, .int .i64 e3, .int .i64 e4, .int .i64 e5, .int .i64 e6].toArray 53 (0, 0)) := alloc_new w2 _
      go_upto_region 9 with fail
      obtain ⟨eb, heb⟩ : ∃ eb, w2.heap.size = eb := ⟨_, rfl⟩
      rw [heb] at heb3 l2
      rw [heb]
      generalize w2.alloc (.cells #[.int .i64 e1, .int .i64 e2, .int .i64 e3, .int .i64 e4, .int .i64 e5, .int .i64 e6] 53) = w3 at *
      clear hst2 hb2 hz2 hcb2 heb
      have f0 : w3.cell? ⟨cb, 0, none⟩ = some (.int .i64 op) := cell_of_blk hcb3 0
      have f1 : w3.cell? ⟨cb, 1, none⟩ = some (.int .i64 cn) := cell_of_blk hcb3 1
      have f3 : w3.cell? ⟨cb, 3, none⟩ = some (.int .i64 field) := cell_of_blk hcb3 3
      by_cases h6 : op = 6
      · subst h6
        have hE : evalRun ss (cs.take (K + 1)) = (st ++ [cn], ok && true) := by rw [HU.out]; rfl
        have HE := Lib.hid hE
        clear hE
        go_wp2_with fail
        refine (put_st hst3 cn true (by omega) hz3).mono ?_
        rintro e w8 ⟨rfl, ⟨A8, c8, hst8⟩, ho8⟩
        have hb8 := bl_only hb3 ho8 (by rintro i (rfl | rfl | ⟨a, ha, rfl⟩); omega; omega; have := (hst3.addr ha).1; omega)
        have hz8 := Nat.le_trans hz3 ho8.size
        clear ho8
        go_wp2_with fail
        go_roundw
        case rel => exact ⟨K + 1, by omega, by simp, hb8, hz8, _, _, by rw [HE.out]; exact hst8⟩
        case measure => simp [intOf]; omega
      by_cases h8 : op = 8
      · subst h8
        have hE : evalRun ss (cs.take (K + 1)) = (st ++ [(many : Int)], ok && true) := by rw [HU.out, ← HMY.out]; rfl
        have HE := Lib.hid hE
        clear hE
        go_wp2_with fail
        refine (put_st hst3 _ true (by omega) hz3).mono ?_
        rintro e w8 ⟨rfl, ⟨A8, c8, hst8⟩, ho8⟩
        have hb8 := bl_only hb3 ho8 (by rintro i (rfl | rfl | ⟨a, ha, rfl⟩); omega; omega; have := (hst3.addr ha).1; omega)
        have hz8 := Nat.le_trans hz3 ho8.size
        clear ho8
        go_wp2_with fail
        go_roundw
        case rel => exact ⟨K + 1, by omega, by simp, hb8, hz8, _, _, by rw [HE.out]; exact hst8⟩
        case measure => simp [intOf]; omega
      by_cases h7 : op = 7
      · subst h7
        by_cases hfd : 0 < many ∧ 0 ≤ field ∧ field < 4
        · obtain ⟨g1, g2, g3⟩ := hfd
          obtain ⟨F, rfl⟩ : ∃ F : Nat, field = F := ⟨field.toNat, by omega⟩
          have hF : F = 0 ∨ F = 1 ∨ F = 2 ∨ F = 3 := by omega
          obtain ⟨y, hy⟩ : ∃ y, Ev.num ⟨e1, e2, e3, e4, e5, e6⟩ F = y := ⟨_, rfl⟩
          have hE : evalRun ss (cs.take (K + 1)) = (st ++ [y], ok && true) := by
            rw [HU.out, ← hy, ← HLE.out]
            unfold evalOne
            dsimp only
            rw [if_neg (by decide), if_neg (by decide), if_pos rfl, if_pos ⟨by rw [HMY.out]; exact g1, g2, g3⟩]
          have gy : w3.cell? ⟨eb, 2 + F, none⟩ = some (.int .i64 y) := by
            rw [← hy]
            rcases hF with rfl | rfl | rfl | rfl
            · exact cell_of_blk heb3 2
            · exact cell_of_blk heb3 3
            · exact cell_of_blk heb3 4
            · exact cell_of_blk heb3 5
          have HE := Lib.hid hE
          have d1 : decide ((0 : Int) < many) = true := decide_eq_true (by omega)
          have d2 : decide ((0 : Int) ≤ F) = true := decide_eq_true (by omega)
          have d3 : decide ((F : Int) < 4) = true := decide_eq_true (by omega)
          clear hE hy hF
          go_wp2_with fail
          refine (put_st hst3 _ true (by omega) hz3).mono ?_
          rintro e w8 ⟨rfl, ⟨A8, c8, hst8⟩, ho8⟩
          have hb8 := bl_only hb3 ho8 (by rintro i (rfl | rfl | ⟨a, ha, rfl⟩); omega; omega; have := (hst3.addr ha).1; omega)
          have hz8 := Nat.le_trans hz3 ho8.size
          clear ho8
          go_wp2_with fail
          go_roundw
          case rel => exact ⟨K + 1, by omega, by simp, hb8, hz8, _, _, by rw [HE.out]; exact hst8⟩
          case measure => simp [intOf]; omega
        · have hE : evalRun ss (cs.take (K + 1)) = (st ++ [0], ok && false) := by
            rw [HU.out]
            unfold evalOne
            dsimp only
            rw [if_neg (by decide), if_neg (by decide), if_pos rfl, if_neg (by rw [HMY.out]; exact hfd)]
          have HE := Lib.hid hE
          have hcase : many = 0 ∨ 0 < many ∧ field < 0 ∨ 0 < many ∧ 0 ≤ field ∧ 4 ≤ field := by omega
          clear hE hfd
          rcases hcase with g1 | ⟨g1, g2⟩ | ⟨g1, g2, g3⟩
          · have d1 : decide ((0 : Int) < many) = false := decide_eq_false (by omega)
            have g0 : ¬ (0 < many) := by omega
            clear g1
            go_wp2_with fail
            refine (put_st hst3 0 false (by omega) hz3).mono ?_
            rintro e w8 ⟨rfl, ⟨A8, c8, hst8⟩, ho8⟩
            have hb8 := bl_only hb3 ho8 (by rintro i (rfl | rfl | ⟨a, ha, rfl⟩); omega; omega; have := (hst3.addr ha).1; omega)
            have hz8 := Nat.le_trans hz3 ho8.size
            clear ho8
            go_wp2_with fail
            go_roundw
            case rel => exact ⟨K + 1, by omega, by simp, hb8, hz8, _, _, by rw [HE.out]; exact hst8⟩
            case measure => simp [intOf]; omega
          · have d1 : decide ((0 : Int) < many) = true := decide_eq_true (by omega)
            have d2 : decide ((0 : Int) ≤ field) = false := decide_eq_false (by omega)
            clear g2
            go_wp2_with fail
            refine (put_st hst3 0 false (by omega) hz3).mono ?_
            rintro e w8 ⟨rfl, ⟨A8, c8, hst8⟩, ho8⟩
            have hb8 := bl_only hb3 ho8 (by rintro i (rfl | rfl | ⟨a, ha, rfl⟩); omega; omega; have := (hst3.addr ha).1; omega)
            have hz8 := Nat.le_trans hz3 ho8.size
            clear ho8
            go_wp2_with fail
            go_roundw
            case rel => exact ⟨K + 1, by omega, by simp, hb8, hz8, _, _, by rw [HE.out]; exact hst8⟩
            case measure => simp [intOf]; omega
          · have d1 : decide ((0 : Int) < many) = true := decide_eq_true (by omega)
            have d2 : decide ((0 : Int) ≤ field) = true := decide_eq_true (by omega)
            have d3 : decide (field < 4) = false := decide_eq_false (by omega)
            clear g2 g3
            go_wp2_with fail
            refine (put_st hst3 0 false (by omega) hz3).mono ?_
            rintro e w8 ⟨rfl, ⟨A8, c8, hst8⟩, ho8⟩
            have hb8 := bl_only hb3 ho8 (by rintro i (rfl | rfl | ⟨a, ha, rfl⟩); omega; omega; have := (hst3.addr ha).1; omega)
            have hz8 := Nat.le_trans hz3 ho8.size
            clear ho8
            go_wp2_with fail
            go_roundw
            case rel => exact ⟨K + 1, by omega, by simp, hb8, hz8, _, _, by rw [HE.out]; exact hst8⟩
            case measure => simp [intOf]; omega
      have k6 : (op == 6) = false := by simpa using h6
      have k7 : (op == 7) = false := by simpa using h7
      have k8 : (op == 8) = false := by simpa using h8
      by_cases h9 : op = 9
      · subst h9
        have hE : evalRun ss (cs.take (K + 1)) = evalDo 2 (evalNeg (st, ok)) := by rw [HU.out]; rfl
        have HE := Lib.hid hE
        clear hE h6 h7 h8
        have cS3 := hst3.cS
        have fS3 := hst3.fS
        obtain ⟨i0, hi, hz0, hz1, hz2⟩ := info_parts infoInt
        have hlo1 : S + 2 ≤ (w3.alloc (.cells #[.int .i64 0] 2)).heap.size := by simp; omega
        have l3 := block_lt hst3.hS
        have l4 := block_lt hst3.hO
        have l5 := block_lt hcb3
        go_upto_region 21 with (at_builtin; refine wpList_append_own _ rfl (.tmp 71) (.tmp 72) 120 rfl (S + 2) 2 i0 _ 1 8 Try.underlying120 hi hz0 hz1 hz2 rfl (by decide) (.slice A1 st.length c1) st.length (ints st) rfl (hst3.row.alloc _) ⟨w3.heap.size, 0, none⟩ 1 1 [.int .i64 0] rfl rfl (cell_one_at _ _ rfl _ _) (by simp [Value.oneCell']) (by simp only [maxLen]; omega) (by omega) hlo1 ?_; intro v w4 hown hgr _; obtain ⟨A2, c2, rfl⟩ := own_form hown; have ho4 := only_grown (S := fun b => ∃ a, A1 = some a ∧ a.block = b) ((Only.refl _ w3).alloc (.cells #[.int .i64 0] 2)) hgr (fun k hk => .inl (own_addr hk)); have hS4 := ho4.block hst3.hS (fun ⟨a, ha, hb⟩ => by have := (hst3.addr ha).1; omega); have hO4 := ho4.block hst3.hO (fun ⟨a, ha, hb⟩ => by have := (hst3.addr ha).1; omega); have hcb4 := ho4.block hcb3 (fun ⟨a, ha, hb⟩ => by have := hA a ha; omega); have cS4 : w4.cell? ⟨S, 0, none⟩ = some (.slice A1 st.length c1) := cell_of_blk hS4 0; have fS4 : w4.frozen? ⟨S, 0, none⟩ = false := free_of_blk hS4 0)
        obtain ⟨A5, c5, hst5⟩ := st_sliced (st' := st ++ [0]) hS4 hO4 (by omega) (by omega) (by omega) hown (by simp) (by simp [ints])
        have hb4 := bl_only hb3 ho4 (fun i ⟨a, ha, hb⟩ => by have := (hst3.addr ha).1; omega)
        have hb5 := bl_set hb4 ⟨S, 0, none⟩ (.slice A2 (st.length + 1) c2) (by show _ ≤ S; omega)
        have hz5 : S + 2 ≤ (w4.setCell ⟨S, 0, none⟩ (.slice A2 (st.length + 1) c2)).heap.size := by have := ho4.size; simp; omega
        have hcb5 : (w4.setCell ⟨S, 0, none⟩ (.slice A2 (st.length + 1) c2)).heap[cb]? = _ := setCell_other hcb4 (by omega) _
        generalize w4.setCell ⟨S, 0, none⟩ (.slice A2 (st.length + 1) c2) = w5 at *
        clear hgr hown ho4 hS4 hO4 hcb4 cS4 fS4 hb4 cS3 fS3 hlo1 l3 l4 l5 hst3 hb3 hz3 heb3 f1 f3 f0 hcb3 hA hi hz0 hz1 hz2
        have hA5 : ∀ a, A5 = some a → a.block ≠ cb := by
          rintro a rfl rfl
          obtain ⟨g, hg, _, _, _, hx⟩ := own_some hst5.row (by simp)
          injection hg with hg
          subst hg
          rcases hst5.row.2 with ⟨hv, _⟩ | ⟨g', cap, cur, hv, _, hh, _⟩
          · cases hv
          · injection hv with h1 _ _
            injection h1 with h1
            injection h1 with h1 _ _
            subst h1
            rw [hcb5] at hh
            simp at hh
        have cS5 := hst5.cS
        have cO5 := hst5.cO
        have fO5 := hst5.fO
        have xcb5 : w5.cell? ⟨cb, 0, none⟩ = some (.int .i64 9) := cell_of_blk hcb5 0
        have fcb5 : w5.frozen? ⟨cb, 0, none⟩ = false := free_of_blk hcb5 0
        rcases List.eq_nil_or_concat st with rfl | ⟨pre, x, rfl⟩
        · simp only [List.nil_append, List.length_cons, List.length_nil, Nat.zero_add] at cS5
          cases ok
          ·
            go_wp2_with fail
            have hst6' := hst5.oked false
            have hcb6' : (w5.setCell ⟨S + 1, 0, none⟩ (.bool false)).heap[cb]? = _ := setCell_other hcb5 (by omega) _
            have hst7 := hst6'.kept (T := fun b => b = cb) ((Only.refl _ _).setCell ⟨cb, 0, none⟩ (.int .i64 2) (.inl rfl)) (by omega) (by omega) (by rintro i rfl hk; obtain ⟨a, ha, hb⟩ := own_addr hk; exact hA5 a ha hb)
            have hcb7 := setCell_same (i := 0) hcb6' (.int .i64 2)
            have hb7 := bl_set (bl_set hb5 ⟨S + 1, 0, none⟩ (.bool false) (by show _ ≤ S + 1; omega)) ⟨cb, 0, none⟩ (.int .i64 2) (by show _ ≤ cb; omega)
            have hz7 : S + 2 ≤ ((w5.setCell ⟨S + 1, 0, none⟩ (.bool false)).setCell ⟨cb, 0, none⟩ (.int .i64 2)).heap.size := by simp; omega
            generalize (w5.setCell ⟨S + 1, 0, none⟩ (.bool false)).setCell ⟨cb, 0, none⟩ (.int .i64 2) = w7 at *
            clear hst6' hcb6' hst5 hb5 hz5 hcb5 cS5 cO5 fO5 fcb5 xcb5
            have hst4 := hst7
            refine (pop_st hst4 (by first | omega | exact hlp | (simp only [List.length_append, List.length_dropLast, List.length_cons, List.length_nil]; omega))).mono ?_
            rintro e w5 ⟨rfl, hst5, ho5⟩
            have hb5 := bl_only hb7 ho5 (by rintro i (rfl | rfl) <;> omega)
            have hz5 := Nat.le_trans hz7 ho5.size
            have hcb5 := ho5.block hcb7 (by omega)
            have c5 : w5.cell? ⟨cb, 0, none⟩ = some (.int .i64 2) := cell_of_blk hcb5 0
            have hst5d : StAt w5.drew (S + 2) S (S + 1) _ _ _ _ := hst5.drewN 1
            have hb5d := bl_drew hb5
            have hz5d : S + 2 ≤ w5.drew.heap.size := hz5
            have hcb5d : w5.drew.heap[cb]? = _ := hcb5
            go_wp2_with fail
            go_region_held3 (fun w' => w'.cell? ⟨cb, 0, none⟩ = some (.int .i64 2)) (first | exact c5 | exact c6 | exact c8) (first
              | (go_at_call 85; refine (pop_st hst5d (by first | omega | (simp only [List.length_append, List.length_dropLast, List.length_cons, List.length_nil]; omega))).mono ?_; rintro e w6 ⟨rfl, hst6, ho6⟩; have hb6 := bl_only hb5d ho6 (by rintro i (rfl | rfl) <;> omega); have hz6 := Nat.le_trans hz5d ho6.size; have hcb6 := ho6.block hcb5d (by omega); have c6 : w6.cell? ⟨cb, 0, none⟩ = some (.int .i64 2) := cell_of_blk hcb6 0)
              | (go_at_call 87; refine (do_any 2 _ _ _).mono ?_; rintro e w' ⟨rfl, rfl⟩)
              | (go_at_call 84; refine (put_st hst6 _ _ (by first | omega | (simp only [List.length_append, List.length_dropLast, List.length_cons, List.length_nil]; omega)) hz6).mono ?_; rintro e w8 ⟨rfl, ⟨A8, c8', hst8⟩, ho8⟩; have hb8 := bl_only hb6 ho8 (by rintro i (rfl | rfl | ⟨a, ha, rfl⟩); omega; omega; have := (hst6.addr ha).1; omega); have hz8 := Nat.le_trans hz6 ho8.size; have c8 : w8.cell? ⟨cb, 0, none⟩ = some (.int .i64 2) := cell_of_blk (ho8.block hcb6 (by rintro (h | h | ⟨a, ha, h⟩); omega; omega; have := hA5 a ha; omega)) 0))
            go_wp2_with fail
            go_roundw
            case rel => exact ⟨K + 1, by omega, by simp, hb8, hz8, _, _, by rw [HE.out]; exact hst8⟩
            case measure => simp [intOf]; omega
          ·
            go_wp2_with fail
            have hst6' := hst5.oked false
            have hcb6' : (w5.setCell ⟨S + 1, 0, none⟩ (.bool false)).heap[cb]? = _ := setCell_other hcb5 (by omega) _
            have hst7 := hst6'.kept (T := fun b => b = cb) ((Only.refl _ _).setCell ⟨cb, 0, none⟩ (.int .i64 2) (.inl rfl)) (by omega) (by omega) (by rintro i rfl hk; obtain ⟨a, ha, hb⟩ := own_addr hk; exact hA5 a ha hb)
            have hcb7 := setCell_same (i := 0) hcb6' (.int .i64 2)
            have hb7 := bl_set (bl_set hb5 ⟨S + 1, 0, none⟩ (.bool false) (by show _ ≤ S + 1; omega)) ⟨cb, 0, none⟩ (.int .i64 2) (by show _ ≤ cb; omega)
            have hz7 : S + 2 ≤ ((w5.setCell ⟨S + 1, 0, none⟩ (.bool false)).setCell ⟨cb, 0, none⟩ (.int .i64 2)).heap.size := by simp; omega
            generalize (w5.setCell ⟨S + 1, 0, none⟩ (.bool false)).setCell ⟨cb, 0, none⟩ (.int .i64 2) = w7 at *
            clear hst6' hcb6' hst5 hb5 hz5 hcb5 cS5 cO5 fO5 fcb5 xcb5
            have hst4 := hst7
            refine (pop_st hst4 (by first | omega | exact hlp | (simp only [List.length_append, List.length_dropLast, List.length_cons, List.length_nil]; omega))).mono ?_
            rintro e w5 ⟨rfl, hst5, ho5⟩
            have hb5 := bl_only hb7 ho5 (by rintro i (rfl | rfl) <;> omega)
            have hz5 := Nat.le_trans hz7 ho5.size
            have hcb5 := ho5.block hcb7 (by omega)
            have c5 : w5.cell? ⟨cb, 0, none⟩ = some (.int .i64 2) := cell_of_blk hcb5 0
            have hst5d : StAt w5.drew (S + 2) S (S + 1) _ _ _ _ := hst5.drewN 1
            have hb5d := bl_drew hb5
            have hz5d : S + 2 ≤ w5.drew.heap.size := hz5
            have hcb5d : w5.drew.heap[cb]? = _ := hcb5
            go_wp2_with fail
            go_region_held3 (fun w' => w'.cell? ⟨cb, 0, none⟩ = some (.int .i64 2)) (first | exact c5 | exact c6 | exact c8) (first
              | (go_at_call 85; refine (pop_st hst5d (by first | omega | (simp only [List.length_append, List.length_dropLast, List.length_cons, List.length_nil]; omega))).mono ?_; rintro e w6 ⟨rfl, hst6, ho6⟩; have hb6 := bl_only hb5d ho6 (by rintro i (rfl | rfl) <;> omega); have hz6 := Nat.le_trans hz5d ho6.size; have hcb6 := ho6.block hcb5d (by omega); have c6 : w6.cell? ⟨cb, 0, none⟩ = some (.int .i64 2) := cell_of_blk hcb6 0)
              | (go_at_call 87; refine (do_any 2 _ _ _).mono ?_; rintro e w' ⟨rfl, rfl⟩)
              | (go_at_call 84; refine (put_st hst6 _ _ (by first | omega | (simp only [List.length_append, List.length_dropLast, List.length_cons, List.length_nil]; omega)) hz6).mono ?_; rintro e w8 ⟨rfl, ⟨A8, c8', hst8⟩, ho8⟩; have hb8 := bl_only hb6 ho8 (by rintro i (rfl | rfl | ⟨a, ha, rfl⟩); omega; omega; have := (hst6.addr ha).1; omega); have hz8 := Nat.le_trans hz6 ho8.size; have c8 : w8.cell? ⟨cb, 0, none⟩ = some (.int .i64 2) := cell_of_blk (ho8.block hcb6 (by rintro (h | h | ⟨a, ha, h⟩); omega; omega; have := hA5 a ha; omega)) 0))
            go_wp2_with fail
            go_roundw
            case rel => exact ⟨K + 1, by omega, by simp, hb8, hz8, _, _, by rw [HE.out]; exact hst8⟩
            case measure => simp [intOf]; omega
        · simp only [List.concat_eq_append] at *
          obtain ⟨L, hL⟩ : ∃ L, L = (pre ++ [x] ++ [0]).length := ⟨_, rfl⟩
          rw [← hL] at cS5
          obtain ⟨P1, hP1⟩ : ∃ P1, P1 = pre.length + 1 := ⟨_, rfl⟩
          have hL1 : L = pre.length + 2 := by rw [hL]; simp
          have hLb : L ≤ K + 1 := by simp at hlen; omega
          have s1 : IntKind.i64.wrap ((L : Int) - 1) = (P1 : Int) := (IntWalk.i64_in _ (by omega)).trans (by omega)
          have s2 : IntKind.i64.wrap ((L : Int) - 2) = (pre.length : Int) := (IntWalk.i64_in _ (by omega)).trans (by omega)
          have d1 : decide ((1 : Int) < L) = true := decide_eq_true (by omega)
          have d2 : 1 < L := by omega
          have d3 : (P1 : Int) < L := by omega
          have d4 : (pre.length : Int) < L := by omega
          have HL := Lib.hid hL
          have HP1 := Lib.hid hP1
          have HL1 := Lib.hid hL1
          clear hL hL1 hP1
          cases ok
          ·
            go_upto_region 24 with fail
            have hst6 := hst5.oked false
            have hcb6 : (w5.setCell ⟨S + 1, 0, none⟩ (.bool false)).heap[cb]? = _ := setCell_other hcb5 (by omega) _
            have hb6 := bl_set hb5 ⟨S + 1, 0, none⟩ (.bool false) (by show _ ≤ S + 1; omega)
            have hz6 : S + 2 ≤ (w5.setCell ⟨S + 1, 0, none⟩ (.bool false)).heap.size := by simp; omega
            generalize w5.setCell ⟨S + 1, 0, none⟩ (.bool false) = w6 at *
            clear hst5 hb5 hz5 hcb5 cS5 cO5 fO5 fcb5 xcb5
            obtain ⟨g, rfl, hg1, hg2, hg3, hgc⟩ := own_some hst6.row (by simp)
            have hgb : g ≠ cb := hA5 _ rfl
            have hbg : cb ≠ g := hgb.symm
            go_cut [] (fun wx => StAt wx (S + 2) S (S + 1) (pre ++ [0, x]) false (some ⟨g, 0, none⟩) c5 ∧ wx.heap[cb]? = some (.cells [.int .i64 9, .int .i64 cn, .string var, .int .i64 field, .int .i64 at_].toArray 56 (0, 0)) ∧ Below w.heap.size w wx ∧ S + 2 ≤ wx.heap.size)
            case first =>
              have cS6 : w6.cell? ⟨S, 0, none⟩ = some (.slice (some ⟨g, 0, none⟩) L c5) := by rw [HL.out]; exact hst6.cS
              have x0 : w6.cell? ⟨g, pre.length, none⟩ = some (.int .i64 x) := hgc _ _ (by simp [ints])
              have x1 : w6.cell? ⟨g, P1, none⟩ = some (.int .i64 0) := hgc _ _ (by rw [HP1.out]; simp [ints])
              have y0 : w6.frozen? ⟨g, pre.length, none⟩ = false := own_free hst6.row _
              have y1 : w6.frozen? ⟨g, P1, none⟩ = false := own_free hst6.row _
              have hgS : g ≠ S := by omega
              have hSg : S ≠ g := by omega
              have hne1 : P1 ≠ pre.length := by rw [HP1.out]; omega
              have hne2 : pre.length ≠ P1 := hne1.symm
              have hst8 := (hst6.swapped HP1.out).drewN 1
              have hcb8 : ((w6.setCell ⟨g, P1, none⟩ (.int .i64 x)).setCell ⟨g, pre.length, none⟩ (.int .i64 0)).drew.heap[cb]? = _ := setCell_other (setCell_other hcb6 hbg _) hbg _
              have hb8 := bl_drew (bl_set (bl_set hb6 ⟨g, P1, none⟩ (.int .i64 x) (by show _ ≤ g; omega)) ⟨g, pre.length, none⟩ (.int .i64 0) (by show _ ≤ g; omega))
              have hz8 : S + 2 ≤ ((w6.setCell ⟨g, P1, none⟩ (.int .i64 x)).setCell ⟨g, pre.length, none⟩ (.int .i64 0)).drew.heap.size := by simp; omega
              have H8 := Lib.hid hst8
              have H9 := Lib.hid hcb8
              have H10 := Lib.hid hb8
              have H11 := Lib.hid hz8
              clear hgc hst8 hcb8 hb8 hz8 hst6 hcb6 hb6 hz6 hA5
              go_region_law (fail)
              all_goals (go_wp2_with fail; go_meet)
              all_goals exact ⟨H8.out, H9.out, H10.out, H11.out⟩
            case rest =>
              clear hst6 hcb6 hb6 hz6 hgc
              obtain ⟨hst8', hcb8, hb8', hz8'⟩ := hcut
              have z1 : wc.cell? ⟨cb, 0, none⟩ = some (.int .i64 9) := cell_of_blk hcb8 0
              have z2 : wc.frozen? ⟨cb, 0, none⟩ = false := free_of_blk hcb8 0
              go_wp2_with fail
              have hst7 := hst8'.kept (T := fun b => b = cb) ((Only.refl _ _).setCell ⟨cb, 0, none⟩ (.int .i64 2) (.inl rfl)) (by omega) (by omega) (by rintro i rfl hk; obtain ⟨a, ha, hb⟩ := own_addr hk; exact hA5 a ha hb)
              have hcb7 := setCell_same (i := 0) hcb8 (.int .i64 2)
              have hb7 := bl_set hb8' ⟨cb, 0, none⟩ (.int .i64 2) (by show _ ≤ cb; omega)
              have hz7 : S + 2 ≤ (wc.setCell ⟨cb, 0, none⟩ (.int .i64 2)).heap.size := by simp; omega
              generalize wc.setCell ⟨cb, 0, none⟩ (.int .i64 2) = w7 at *
              clear hst8' hcb8 hb8' hz8' z1 z2
              have hlp : (pre ++ [0, x]).length ≤ 1000000 := by simp; omega
              have hst4 := hst7
              refine (pop_st hst4 (by first | omega | exact hlp | (simp only [List.length_append, List.length_dropLast, List.length_cons, List.length_nil]; omega))).mono ?_
              rintro e w5 ⟨rfl, hst5, ho5⟩
              have hb5 := bl_only hb7 ho5 (by rintro i (rfl | rfl) <;> omega)
              have hz5 := Nat.le_trans hz7 ho5.size
              have hcb5 := ho5.block hcb7 (by omega)
              have c5 : w5.cell? ⟨cb, 0, none⟩ = some (.int .i64 2) := cell_of_blk hcb5 0
              have hst5d : StAt w5.drew (S + 2) S (S + 1) _ _ _ _ := hst5.drewN 1
              have hb5d := bl_drew hb5
              have hz5d : S + 2 ≤ w5.drew.heap.size := hz5
              have hcb5d : w5.drew.heap[cb]? = _ := hcb5
              go_wp2_with fail
              go_region_held3 (fun w' => w'.cell? ⟨cb, 0, none⟩ = some (.int .i64 2)) (first | exact c5 | exact c6 | exact c8) (first
                | (go_at_call 85; refine (pop_st hst5d (by first | omega | (simp only [List.length_append, List.length_dropLast, List.length_cons, List.length_nil]; omega))).mono ?_; rintro e w6 ⟨rfl, hst6, ho6⟩; have hb6 := bl_only hb5d ho6 (by rintro i (rfl | rfl) <;> omega); have hz6 := Nat.le_trans hz5d ho6.size; have hcb6 := ho6.block hcb5d (by omega); have c6 : w6.cell? ⟨cb, 0, none⟩ = some (.int .i64 2) := cell_of_blk hcb6 0)
                | (go_at_call 87; refine (do_any 2 _ _ _).mono ?_; rintro e w' ⟨rfl, rfl⟩)
                | (go_at_call 84; refine (put_st hst6 _ _ (by first | omega | (simp only [List.length_append, List.length_dropLast, List.length_cons, List.length_nil]; omega)) hz6).mono ?_; rintro e w8 ⟨rfl, ⟨A8, c8', hst8⟩, ho8⟩; have hb8 := bl_only hb6 ho8 (by rintro i (rfl | rfl | ⟨a, ha, rfl⟩); omega; omega; have := (hst6.addr ha).1; omega); have hz8 := Nat.le_trans hz6 ho8.size; have c8 : w8.cell? ⟨cb, 0, none⟩ = some (.int .i64 2) := cell_of_blk (ho8.block hcb6 (by rintro (h | h | ⟨a, ha, h⟩); omega; omega; have := hA5 a ha; omega)) 0))
              go_wp2_with fail
              go_roundw
              case rel => exact ⟨K + 1, by omega, by simp, hb8, hz8, _, _, by rw [HE.out]; rw [evalNeg_snoc, evalDo_snoc2]; exact hst8⟩
              case measure => simp [intOf]; omega
          ·
            go_upto_region 24 with fail
            have hst6 := hst5.oked true
            have hcb6 : (w5.setCell ⟨S + 1, 0, none⟩ (.bool true)).heap[cb]? = _ := setCell_other hcb5 (by omega) _
            have hb6 := bl_set hb5 ⟨S + 1, 0, none⟩ (.bool true) (by show _ ≤ S + 1; omega)
            have hz6 : S + 2 ≤ (w5.setCell ⟨S + 1, 0, none⟩ (.bool true)).heap.size := by simp; omega
            generalize w5.setCell ⟨S + 1, 0, none⟩ (.bool true) = w6 at *
            clear hst5 hb5 hz5 hcb5 cS5 cO5 fO5 fcb5 xcb5
            obtain ⟨g, rfl, hg1, hg2, hg3, hgc⟩ := own_some hst6.row (by simp)
            have hgb : g ≠ cb := hA5 _ rfl
            have hbg : cb ≠ g := hgb.symm
            go_cut [] (fun wx => StAt wx (S + 2) S (S + 1) (pre ++ [0, x]) true (some ⟨g, 0, none⟩) c5 ∧ wx.heap[cb]? = some (.cells [.int .i64 9, .int .i64 cn, .string var, .int .i64 field, .int .i64 at_].toArray 56 (0, 0)) ∧ Below w.heap.size w wx ∧ S + 2 ≤ wx.heap.size)
            case first =>
              have cS6 : w6.cell? ⟨S, 0, none⟩ = some (.slice (some ⟨g, 0, none⟩) L c5) := by rw [HL.out]; exact hst6.cS
              have x0 : w6.cell? ⟨g, pre.length, none⟩ = some (.int .i64 x) := hgc _ _ (by simp [ints])
              have x1 : w6.cell? ⟨g, P1, none⟩ = some (.int .i64 0) := hgc _ _ (by rw [HP1.out]; simp [ints])
              have y0 : w6.frozen? ⟨g, pre.length, none⟩ = false := own_free hst6.row _
              have y1 : w6.frozen? ⟨g, P1, none⟩ = false := own_free hst6.row _
              have hgS : g ≠ S := by omega
              have hSg : S ≠ g := by omega
              have hne1 : P1 ≠ pre.length := by rw [HP1.out]; omega
              have hne2 : pre.length ≠ P1 := hne1.symm
              have hst8 := (hst6.swapped HP1.out).drewN 1
              have hcb8 : ((w6.setCell ⟨g, P1, none⟩ (.int .i64 x)).setCell ⟨g, pre.length, none⟩ (.int .i64 0)).drew.heap[cb]? = _ := setCell_other (setCell_other hcb6 hbg _) hbg _
              have hb8 := bl_drew (bl_set (bl_set hb6 ⟨g, P1, none⟩ (.int .i64 x) (by show _ ≤ g; omega)) ⟨g, pre.length, none⟩ (.int .i64 0) (by show _ ≤ g; omega))
              have hz8 : S + 2 ≤ ((w6.setCell ⟨g, P1, none⟩ (.int .i64 x)).setCell ⟨g, pre.length, none⟩ (.int .i64 0)).drew.heap.size := by simp; omega
              have H8 := Lib.hid hst8
              have H9 := Lib.hid hcb8
              have H10 := Lib.hid hb8
              have H11 := Lib.hid hz8
              clear hgc hst8 hcb8 hb8 hz8 hst6 hcb6 hb6 hz6 hA5
              go_region_law (fail)
              all_goals (go_wp2_with fail; go_meet)
              all_goals exact ⟨H8.out, H9.out, H10.out, H11.out⟩
            case rest =>
              clear hst6 hcb6 hb6 hz6 hgc
              obtain ⟨hst8', hcb8, hb8', hz8'⟩ := hcut
              have z1 : wc.cell? ⟨cb, 0, none⟩ = some (.int .i64 9) := cell_of_blk hcb8 0
              have z2 : wc.frozen? ⟨cb, 0, none⟩ = false := free_of_blk hcb8 0
              go_wp2_with fail
              have hst7 := hst8'.kept (T := fun b => b = cb) ((Only.refl _ _).setCell ⟨cb, 0, none⟩ (.int .i64 2) (.inl rfl)) (by omega) (by omega) (by rintro i rfl hk; obtain ⟨a, ha, hb⟩ := own_addr hk; exact hA5 a ha hb)
              have hcb7 := setCell_same (i := 0) hcb8 (.int .i64 2)
              have hb7 := bl_set hb8' ⟨cb, 0, none⟩ (.int .i64 2) (by show _ ≤ cb; omega)
              have hz7 : S + 2 ≤ (wc.setCell ⟨cb, 0, none⟩ (.int .i64 2)).heap.size := by simp; omega
              generalize wc.setCell ⟨cb, 0, none⟩ (.int .i64 2) = w7 at *
              clear hst8' hcb8 hb8' hz8' z1 z2
              have hlp : (pre ++ [0, x]).length ≤ 1000000 := by simp; omega
              have hst4 := hst7
              refine (pop_st hst4 (by first | omega | exact hlp | (simp only [List.length_append, List.length_dropLast, List.length_cons, List.length_nil]; omega))).mono ?_
              rintro e w5 ⟨rfl, hst5, ho5⟩
              have hb5 := bl_only hb7 ho5 (by rintro i (rfl | rfl) <;> omega)
              have hz5 := Nat.le_trans hz7 ho5.size
              have hcb5 := ho5.block hcb7 (by omega)
              have c5 : w5.cell? ⟨cb, 0, none⟩ = some (.int .i64 2) := cell_of_blk hcb5 0
              have hst5d : StAt w5.drew (S + 2) S (S + 1) _ _ _ _ := hst5.drewN 1
              have hb5d := bl_drew hb5
              have hz5d : S + 2 ≤ w5.drew.heap.size := hz5
              have hcb5d : w5.drew.heap[cb]? = _ := hcb5
              go_wp2_with fail
              go_region_held3 (fun w' => w'.cell? ⟨cb, 0, none⟩ = some (.int .i64 2)) (first | exact c5 | exact c6 | exact c8) (first
                | (go_at_call 85; refine (pop_st hst5d (by first | omega | (simp only [List.length_append, List.length_dropLast, List.length_cons, List.length_nil]; omega))).mono ?_; rintro e w6 ⟨rfl, hst6, ho6⟩; have hb6 := bl_only hb5d ho6 (by rintro i (rfl | rfl) <;> omega); have hz6 := Nat.le_trans hz5d ho6.size; have hcb6 := ho6.block hcb5d (by omega); have c6 : w6.cell? ⟨cb, 0, none⟩ = some (.int .i64 2) := cell_of_blk hcb6 0)
                | (go_at_call 87; refine (do_any 2 _ _ _).mono ?_; rintro e w' ⟨rfl, rfl⟩)
                | (go_at_call 84; refine (put_st hst6 _ _ (by first | omega | (simp only [List.length_append, List.length_dropLast, List.length_cons, List.length_nil]; omega)) hz6).mono ?_; rintro e w8 ⟨rfl, ⟨A8, c8', hst8⟩, ho8⟩; have hb8 := bl_only hb6 ho8 (by rintro i (rfl | rfl | ⟨a, ha, rfl⟩); omega; omega; have := (hst6.addr ha).1; omega); have hz8 := Nat.le_trans hz6 ho8.size; have c8 : w8.cell? ⟨cb, 0, none⟩ = some (.int .i64 2) := cell_of_blk (ho8.block hcb6 (by rintro (h | h | ⟨a, ha, h⟩); omega; omega; have := hA5 a ha; omega)) 0))
              go_wp2_with fail
              go_roundw
              case rel => exact ⟨K + 1, by omega, by simp, hb8, hz8, _, _, by rw [HE.out]; rw [evalNeg_snoc, evalDo_snoc2]; exact hst8⟩
              case measure => simp [intOf]; omega
      · have k9 : (op == 9) = false := by simpa using h9
        have hE : evalRun ss (cs.take (K + 1)) = evalDo op (st, ok) := by
          rw [HU.out]
          unfold evalOne
          dsimp only
          rw [if_neg h6, if_neg h8, if_neg h7, if_neg h9]
        have HE := Lib.hid hE
        clear hE h6 h7 h8 h9
        go_wp2_with fail
        have hst4 := hst3
        refine (pop_st hst4 (by first | omega | exact hlp | (simp only [List.length_append, List.length_dropLast, List.length_cons, List.length_nil]; omega))).mono ?_
        rintro e w5 ⟨rfl, hst5, ho5⟩
        have hb5 := bl_only hb3 ho5 (by rintro i (rfl | rfl) <;> omega)
        have hz5 := Nat.le_trans hz3 ho5.size
        have hcb5 := ho5.block hcb3 (by omega)
        have c5 : w5.cell? ⟨cb, 0, none⟩ = some (.int .i64 op) := cell_of_blk hcb5 0
        have hst5d : StAt w5.drew (S + 2) S (S + 1) _ _ _ _ := hst5.drewN 1
        have hb5d := bl_drew hb5
        have hz5d : S + 2 ≤ w5.drew.heap.size := hz5
        have hcb5d : w5.drew.heap[cb]? = _ := hcb5
        go_wp2_with fail
        go_region_held3 (fun w' => w'.cell? ⟨cb, 0, none⟩ = some (.int .i64 op)) (first | exact c5 | exact c6 | exact c8) (first
          | (go_at_call 85; refine (pop_st hst5d (by first | omega | (simp only [List.length_append, List.length_dropLast, List.length_cons, List.length_nil]; omega))).mono ?_; rintro e w6 ⟨rfl, hst6, ho6⟩; have hb6 := bl_only hb5d ho6 (by rintro i (rfl | rfl) <;> omega); have hz6 := Nat.le_trans hz5d ho6.size; have hcb6 := ho6.block hcb5d (by omega); have c6 : w6.cell? ⟨cb, 0, none⟩ = some (.int .i64 op) := cell_of_blk hcb6 0)
          | (go_at_call 87; refine (do_any op _ _ _).mono ?_; rintro e w' ⟨rfl, rfl⟩)
          | (go_at_call 84; refine (put_st hst6 _ _ (by first | omega | (simp only [List.length_append, List.length_dropLast, List.length_cons, List.length_nil]; omega)) hz6).mono ?_; rintro e w8 ⟨rfl, ⟨A8, c8', hst8⟩, ho8⟩; have hb8 := bl_only hb6 ho8 (by rintro i (rfl | rfl | ⟨a, ha, rfl⟩); omega; omega; have := (hst6.addr ha).1; omega); have hz8 := Nat.le_trans hz6 ho8.size; have c8 : w8.cell? ⟨cb, 0, none⟩ = some (.int .i64 op) := cell_of_blk (ho8.block hcb6 (by rintro (h | h | ⟨a, ha, h⟩); omega; omega; have := hA a ha; omega)) 0))
        go_wp2_with fail
        go_roundw
        case rel => exact ⟨K + 1, by omega, by simp, hb8, hz8, _, _, by rw [HE.out]; exact hst8⟩
        case measure => simp [intOf]; omega
    · obtain rfl : n = K := by omega
      have htk : cs.take n = cs := by rw [← HC.out.len]; exact List.take_length
      rw [htk] at hst
      have hres : evalRes ss cs = if (evalRun ss cs).2 = true ∧ (evalRun ss cs).1.length = 1 then ((evalRun ss cs).1.headD 0, true) else (0, false) := rfl
      generalize evalRun ss cs = s at *
      obtain ⟨st, ok⟩ := s
      dsimp only at hst hres
      have cS := hst.cS
      have cO := hst.cO
      clear htk
      cases ok
      · have HR := Lib.hid (hres.trans (if_neg (fun h => by cases h.1)))
        have HX := Lib.hid hst
        clear hst hres
        go_wp2_with fail
        go_ret2
        exact ⟨by rw [HR.out]; rfl, hb⟩
      · by_cases h1 : st.length = 1
        · have HR := Lib.hid (hres.trans (if_pos ⟨rfl, h1⟩))
          obtain ⟨x, rfl⟩ := List.length_eq_one_iff.1 h1
          obtain ⟨g, rfl, _, _, _, hgc⟩ := own_some hst.row (by simp)
          have x0 : wr.cell? ⟨g, 0, none⟩ = some (.int .i64 x) := hgc 0 _ rfl
          simp only [List.length_cons, List.length_nil, Nat.zero_add] at cS
          have HX := Lib.hid hst
          clear hst hgc h1 hres
          go_wp2_with fail
          go_ret2
          exact ⟨by rw [HR.out]; rfl, hb⟩
        · have d1 : ((st.length : Int) != 1) = true := by simp; omega
          have HR := Lib.hid (hres.trans (if_neg (fun h => h1 h.2)))
          have HX := Lib.hid hst
          generalize st.length = L at *
          clear hst hres
          go_wp2_with fail
          go_ret2
          exact ⟨by rw [HR.out]; rfl, hb⟩
end Go.Proofs.Ytecdnpdmjbcioaa
