/- Appends of rows to rows that the code owns, whatever is appended (nil too); the head and the tail of a row. Of no program. -/
import Derived.Test.YtecdnpdmjbcioaaBase
import Derived.Deep.AppendLies
import Derived.Laws.AppendOwnNone
import Derived.ArgAppend
import Derived.WalkSmall
namespace Go.Proofs.Ytecdnpdmjbcioaa
open Go.RowKit
set_option linter.unusedVariables false

/-- A slice's elements, as cells that can be read. -/
structure Reads (w : World) (size : Nat) (x : Value) (m : Nat) (news : List Value) : Prop where
  len : news.length = m * size
  one : ∀ u ∈ news, u.oneCell' = true
  at_ : (∃ a c, x = .slice (some a) m c ∧ ∀ j u, news[j]? = some u → w.cell? (a.add j) = some u) ∨ (x = .slice none 0 0 ∧ m = 0)
theorem Reads.of_own {w : World} {base : Nat} {e : TypeId} {size : Nat} {v : Value} {n : Nat} {xs : List Value} (h : w.ownsRow base e size v n xs) (h1 : ∀ u ∈ xs, u.oneCell' = true) : Reads w size v n xs := by
  refine ⟨h.1, h1, ?_⟩
  rcases h.2 with ⟨rfl, rfl⟩ | ⟨g, cap, cur, rfl, _⟩
  · exact .inr ⟨rfl, rfl⟩
  · exact .inl ⟨_, _, rfl, h.cells (g := g) rfl⟩
theorem Reads.tail {w : World} {base : Nat} {e : TypeId} {size : Nat} {A : Option Addr} {n cap : Nat} {xs : List Value} (h : w.ownsRow base e size (.slice A n cap) n xs) (h1 : ∀ u ∈ xs, u.oneCell' = true) (i : Nat) (hi : i ≤ n) :
    Reads w size (.slice (if cap = i then A else A.map (·.add (i * size))) (n - i) (cap - i)) (n - i) (xs.drop (i * size)) := by
  have hl := h.1
  refine ⟨by rw [List.length_drop, hl, Nat.sub_mul], fun u hu => h1 u (List.mem_of_mem_drop hu), ?_⟩
  rcases h.2 with ⟨hv, rfl⟩ | ⟨g, cap', cur, hv, hb, hg, hnc, _⟩
  · injection hv with hA h0 hc
    subst hA hc
    obtain rfl : i = 0 := by omega
    exact .inr ⟨by simp, rfl⟩
  · have hc := h
    rw [hv] at hc
    have hcs := hc.cells (g := g) rfl
    injection hv with hA _ hcap
    subst hA hcap
    by_cases hci : cap = i
    · refine .inl ⟨_, _, by rw [if_pos hci], fun j u hj => ?_⟩
      have : xs.drop (i * size) = [] := List.drop_eq_nil_of_le (by rw [hl]; exact Nat.mul_le_mul_right _ (by omega))
      rw [this] at hj; cases hj
    · refine .inl ⟨_, _, by rw [if_neg hci]; rfl, fun j u hj => ?_⟩
      rw [List.getElem?_drop] at hj
      have := hcs _ u hj
      simpa [Addr.add_lit, Nat.add_comm] using this

theorem wpList_append_reads {P : Program} (w : World) {ops : Array Oper} {rest : List Oper} {o : Oper} {a : Act} {Q : Exit → Act → World → Prop} (hgd : o.guard = none) (s x : Operand) (t : TypeId)
    (ho : o.op = .call { callee := .builtin .append, args := #[s, x], argTypes := #[t, t] })
    (base : Nat) (e : TypeId) (i : TypeInfo) (z : Value) (size bytes : Nat) (ht : P.underlying t = some (.slice e)) (hi : P.info? e = some i) (hz : i.zero = some z)
    (hsize : i.size = size) (hby : i.bytes = bytes) (hzs : z.cells.size = size) (hsz : 0 < size)
    (v : Value) (n : Nat) (xs : List Value) (hs : a.eval s = v) (hown : w.ownsRow base e size v n xs)
    (xv : Value) (m : Nat) (news : List Value) (hx : a.eval x = xv) (hr : Reads w size xv m news)
    (h63 : n + m ≤ maxLen) (hbytes : (n + m) * bytes ≤ 140737488355328) (hbase : base ≤ w.heap.size)
    (h : ∀ v' w', w'.ownsRow base e size v' (n + m) (xs ++ news) → w.grownBy w' v.ownBlock → wpList P ops Q rest (a.put o.dst v') w') : wpList P ops Q (o :: rest) a w := by
  rcases hr.at_ with ⟨ad, c, rfl, hc⟩ | ⟨rfl, rfl⟩
  · exact wpList_append_own w hgd s x t ho base e i z size bytes ht hi hz hsize hby hzs hsz v n xs hs hown ad m c news hx hr.len hc hr.one h63 hbytes hbase fun v' w' h1 h2 _ => h v' w' h1 h2
  · have hn : news = [] := List.eq_nil_of_length_eq_zero (by simpa using hr.len)
    subst hn
    refine wpList_append_own_none hgd s x t ho base e i size ht hi v n xs hs hown hx (h v w ?_ ⟨rfl, rfl, rfl, Nat.le_refl _, fun _ _ _ => rfl⟩)
    rw [List.append_nil, Nat.add_zero]
    exact hown
/-- The head of a row, cut to its length: what is appended to it makes a new row. -/
theorem wpList_append_head {P : Program} (w : World) {ops : Array Oper} {rest : List Oper} {o : Oper} {a : Act} {Q : Exit → Act → World → Prop} (hgd : o.guard = none) (s x : Operand) (t : TypeId)
    (ho : o.op = .call { callee := .builtin .append, args := #[s, x], argTypes := #[t, t] })
    (base : Nat) (e : TypeId) (i : TypeInfo) (z : Value) (size bytes : Nat) (ht : P.underlying t = some (.slice e)) (hi : P.info? e = some i) (hz : i.zero = some z)
    (hsize : i.size = size) (hby : i.bytes = bytes) (hzs : z.cells.size = size) (hsz : 0 < size)
    (A : Option Addr) (n cap : Nat) (xs : List Value) (k : Nat) (hk : k ≤ n) (hs : a.eval s = .slice A k k) (hown : w.ownsRow base e size (.slice A n cap) n xs)
    (ad : Addr) (m c : Nat) (news : List Value) (hx : a.eval x = .slice (some ad) m c) (hl : news.length = m * size) (hnews : ∀ j u, news[j]? = some u → w.cell? (ad.add j) = some u) (h1 : ∀ u ∈ news, u.oneCell' = true) (hm : 0 < m)
    (h63 : k + m ≤ maxLen) (hbytes : (k + m) * bytes ≤ 140737488355328)
    (h : ∀ v' w', w'.ownsRow w.heap.size e size v' (k + m) (xs.take (k * size) ++ news) → w.grownBy w' none → wpList P ops Q rest (a.put o.dst v') w') : wpList P ops Q (o :: rest) a w := by
  have hxl := hown.1
  refine wpList_append_grows w hgd s x t ho e i z size bytes ht hi hz hsize hby hzs hsz A k k (xs.take (k * size)) hs ?_ (by rw [List.length_take, hxl, Nat.min_eq_left (Nat.mul_le_mul_right _ hk)]) ?_ ad m c news hx hl hnews h1 (by omega) h63 hbytes h
  · rintro rfl
    rcases hown.2 with ⟨_, rfl⟩ | ⟨_, _, _, hv, _⟩
    · omega
    · cases hv
  · rintro b rfl j u hj
    rcases hown.2 with ⟨hv, _⟩ | ⟨g, cap', cur, hv, _⟩
    · cases hv
    · injection hv with hA _ _
      injection hA with hA
      subst hA
      have hj' : xs[j]? = some u := by
        rw [List.getElem?_take] at hj
        split at hj
        · exact hj
        · cases hj
      exact hown.cells (g := g) rfl j u hj'
theorem only_grown {S : Nat → Prop} {w w1 w' : World} {row : Option Nat} (h : Only S w w1) (g : w1.grownBy w' row) (hrow : ∀ k, row = some k → S k ∨ w.heap.size ≤ k) : Only S w w' :=
  ⟨g.os.trans h.os, g.tape.trans h.tape, g.output.trans h.output, Nat.le_trans h.size g.size, fun k hk hs => (g.block k (Nat.lt_of_lt_of_le hk h.size) (fun e => by rcases hrow k e.symm with h1 | h1; exact hs h1; omega)).trans (h.keep k hk hs)⟩
theorem ownsRow_kept {S : Nat → Prop} {w w' : World} {lo : Nat} {e : TypeId} {size : Nat} {v : Value} {n : Nat} {xs : List Value} (h : w.ownsRow lo e size v n xs) (k : Only S w w') (hS : ∀ i, S i → v.ownBlock ≠ some i) : w'.ownsRow lo e size v n xs := by
  refine ⟨h.1, ?_⟩
  rcases h.2 with h2 | ⟨g, cap, cur, rfl, hb, hg, h3⟩
  · exact .inl h2
  · exact .inr ⟨g, cap, cur, rfl, hb, k.block hg (fun hs => hS g hs rfl), h3⟩
theorem ownsRow_base {w : World} {lo lo' : Nat} {e : TypeId} {size : Nat} {v : Value} {n : Nat} {xs : List Value} (h : w.ownsRow lo e size v n xs) (hl : lo' ≤ lo) : w.ownsRow lo' e size v n xs := by
  refine ⟨h.1, ?_⟩
  rcases h.2 with h2 | ⟨g, cap, cur, rfl, hb, hg, h3⟩
  · exact .inl h2
  · exact .inr ⟨g, cap, cur, rfl, Nat.le_trans hl hb, hg, h3⟩
theorem own_block {w : World} {lo : Nat} {e : TypeId} {size : Nat} {v : Value} {n : Nat} {xs : List Value} (h : w.ownsRow lo e size v n xs) {k : Nat} (hk : v.ownBlock = some k) : lo ≤ k := by
  rcases h.2 with ⟨rfl, _⟩ | ⟨g, cap, cur, rfl, hb, _⟩
  · cases hk
  · injection hk with hk; subst hk; exact hb
theorem ownsRow_take {w : World} {lo : Nat} {e : TypeId} {size : Nat} {A : Option Addr} {n c : Nat} {xs : List Value} (h : w.ownsRow lo e size (.slice A n c) n xs) (k : Nat) (hk : k ≤ n) : w.ownsRow lo e size (.slice A k c) k (xs.take (k * size)) := by
  have hkn : k * size ≤ n * size := Nat.mul_le_mul_right _ hk
  refine ⟨by rw [List.length_take, h.1, Nat.min_eq_left hkn], ?_⟩
  rcases h.2 with ⟨hv, hn⟩ | ⟨g, cap, cur, hv, hb, hg, h1, h2, h3, h4⟩
  · injection hv with hA _ hc
    subst hA hc
    obtain rfl : k = 0 := by omega
    exact .inl ⟨rfl, rfl⟩
  · injection hv with hA _ hc
    subst hA hc
    refine .inr ⟨g, c, cur, rfl, hb, hg, by omega, h2, h3, ?_⟩
    rw [← h4, List.take_take, Nat.min_eq_left hkn]
theorem ownsRow_set {w : World} {lo : Nat} {e : TypeId} {size : Nat} {g n c : Nat} {xs : List Value} (h : w.ownsRow lo e size (.slice (some ⟨g, 0, none⟩) n c) n xs) (i : Nat) (v : Value) : (w.setCell ⟨g, i, none⟩ v).ownsRow lo e size (.slice (some ⟨g, 0, none⟩) n c) n (xs.set i v) := by
  refine ⟨by rw [List.length_set]; exact h.1, ?_⟩
  rcases h.2 with ⟨hv, _⟩ | ⟨g', cap, cur, hv, hb, hg, h1, h2, h3, h4⟩
  · cases hv
  · injection hv with hA _ hc
    injection hA with hA
    injection hA with hA _ _
    subst hA hc
    have hs := setCell_same (cs := cur.toList) (i := i) hg v
    refine .inr ⟨g, c, _, rfl, hb, hs, h1, h2, by simpa using h3, ?_⟩
    rw [← h4, List.toList_toArray, List.take_set]
theorem own_free {w : World} {lo : Nat} {e : TypeId} {size : Nat} {g n c : Nat} {xs : List Value} (h : w.ownsRow lo e size (.slice (some ⟨g, 0, none⟩) n c) n xs) (i : Nat) : w.frozen? ⟨g, i, none⟩ = false := by
  rcases h.2 with ⟨hv, _⟩ | ⟨g', cap, cur, hv, hb, hg, _⟩
  · cases hv
  · injection hv with hA _ _
    injection hA with hA
    injection hA with hA _ _
    subst hA
    exact free_of_blk (cs := cur.toList) hg i
theorem own_some {w : World} {lo : Nat} {e : TypeId} {size : Nat} {A : Option Addr} {n c : Nat} {xs : List Value} (h : w.ownsRow lo e size (.slice A n c) n xs) (hn : 0 < n) : ∃ g, A = some ⟨g, 0, none⟩ ∧ lo ≤ g ∧ n ≤ c ∧ g < w.heap.size ∧ ∀ j u, xs[j]? = some u → w.cell? ⟨g, j, none⟩ = some u := by
  rcases h.2 with ⟨_, h0⟩ | ⟨g, cap, cur, hv, hb, hg, h1, _⟩
  · omega
  · have hc := h
    rw [hv] at hc
    have hcs := hc.cells (g := g) rfl
    injection hv with hA _ hcap
    subst hA hcap
    exact ⟨g, rfl, hb, h1, block_lt hg, fun j u hj => by simpa [Addr.add_lit] using hcs j u hj⟩
theorem cell_two_at (w : World) (n : Nat) (hn : w.heap.size = n) (x y : Value) (e : TypeId) : ∀ (j : Nat) (u : Value), [x, y][j]? = some u → (w.alloc (.cells #[x, y] e)).cell? ((⟨n, 0, none⟩ : Addr).add j) = some u := by
  subst hn
  exact cell_two_new _ _ _ _
end Go.Proofs.Ytecdnpdmjbcioaa
