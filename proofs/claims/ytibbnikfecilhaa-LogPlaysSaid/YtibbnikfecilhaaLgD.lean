/- Chapter 19: the document's log in memory. -/
import Derived.Test.YtibbnikfecilhaaLgV
import Derived.Test.YtibbnikfecilhaaSl
namespace Go.Proofs.Ytibbnikfecilhaa
open Go.RowKit
set_option linter.unusedVariables false
set_option linter.unusedSimpArgs false

/-! ### Rows of cells, by a function -/
def rowF (c : Nat → List Value) (n : Nat) : List Value := (List.range n).flatMap c
section
variable {c c' : Nat → List Value} {K n : Nat}
theorem rowF_len (hc : ∀ p, (c p).length = K) (n : Nat) : (rowF c n).length = n * K := by
  have := flat_len c K hc (List.range n)
  rwa [List.length_range] at this
theorem rowF_at (hc : ∀ p, (c p).length = K) {p j : Nat} (hp : p < n) (hj : j < K) : (rowF c n)[p * K + j]? = (c p)[j]? := by
  have := flat_at c K hc 0 (List.range n) p (by simpa using hp) j hj
  rw [show (List.range n).getD p 0 = p by rw [List.getD_eq_getElem?_getD, List.getElem?_range hp]; rfl] at this
  exact this
theorem rowF_congr (h : ∀ p, p < n → c p = c' p) : rowF c n = rowF c' n := by
  unfold rowF
  induction n with
  | zero => rfl
  | succ n ih =>
    rw [List.range_succ, List.flatMap_append, List.flatMap_append, ih (fun p hp => h p (by omega))]
    simp [h n (Nat.lt_succ_self n)]
theorem rowF_succ (c : Nat → List Value) (n : Nat) : rowF c (n + 1) = rowF c n ++ c n := by
  unfold rowF
  rw [List.range_succ, List.flatMap_append]
  simp
theorem rowF_set (hK : 0 < K) (hc : ∀ p, (c p).length = K) {p j : Nat} (hp : p < n) (hj : j < K) (v : Value) : (rowF c n).set (p * K + j) v = rowF (upd c p ((c p).set j v)) n := by
  have hc' : ∀ q, (upd c p ((c p).set j v) q).length = K := fun q => by
    unfold upd
    split
    · rw [List.length_set]; exact hc p
    · exact hc q
  have hlt : (p + 1) * K ≤ n * K := Nat.mul_le_mul_right _ hp
  rw [Nat.succ_mul] at hlt
  refine List.ext_getElem? fun i => ?_
  by_cases hi : i < n * K
  · have hq : i / K < n := (Nat.div_lt_iff_lt_mul hK).2 hi
    have hr : i % K < K := Nat.mod_lt _ hK
    have hiq : i / K * K + i % K = i := by rw [Nat.mul_comm]; exact Nat.div_add_mod i K
    have e1 := rowF_at hc' hq hr
    have e2 := rowF_at hc hq hr
    rw [hiq] at e1 e2
    rw [e1]
    by_cases e : i / K = p
    · rw [e, upd_same]
      by_cases e3 : i % K = j
      · have : i = p * K + j := by rw [← e, ← e3]; exact hiq.symm
        subst this
        rw [List.getElem?_set_self (by rw [rowF_len hc]; exact hi), e3, List.getElem?_set_self (by rw [hc]; exact hj)]
      · have h5 : p * K + i % K = i := by rw [← e]; exact hiq
        rw [List.getElem?_set_ne (by omega), e2, e, List.getElem?_set_ne (Ne.symm e3)]
    · have hne : p * K + j ≠ i := by
        intro h
        have h1 : p ≤ i / K := (Nat.le_div_iff_mul_le hK).2 (by omega)
        have h2 : i / K < p + 1 := (Nat.div_lt_iff_lt_mul hK).2 (by rw [Nat.succ_mul]; omega)
        omega
      rw [List.getElem?_set_ne hne, e2, upd_other _ _ e]
  · rw [List.getElem?_eq_none (by rw [List.length_set, rowF_len hc]; omega), List.getElem?_eq_none (by rw [rowF_len hc']; omega)]
theorem rowF_puts (hK : 0 < K) : ∀ (vs : List Value) (c : Nat → List Value), (∀ p, (c p).length = K) → ∀ {p o : Nat}, p < n → o + vs.length ≤ K → putL (rowF c n) (p * K + o) vs = rowF (upd c p (putL (c p) o vs)) n := by
  intro vs
  induction vs with
  | nil =>
    intro c hc p o hp ho
    show rowF c n = _
    refine rowF_congr fun q hq => ?_
    by_cases e : q = p
    · subst e; rw [upd_same]; rfl
    · rw [upd_other _ _ e]
  | cons v vs ih =>
    intro c hc p o hp ho
    simp only [List.length_cons] at ho
    show putL ((rowF c n).set (p * K + o) v) (p * K + o + 1) vs = _
    rw [rowF_set hK hc hp (by omega)]
    have hc' : ∀ q, (upd c p ((c p).set o v) q).length = K := fun q => by
      unfold upd
      split
      · rw [List.length_set]; exact hc p
      · exact hc q
    have := ih (upd c p ((c p).set o v)) hc' (o := o + 1) hp (by omega)
    rw [Nat.add_assoc, this, upd_same]
    refine rowF_congr fun q hq => ?_
    by_cases e : q = p
    · subst e; rw [upd_same, upd_same]; rfl
    · rw [upd_other _ _ e, upd_other _ _ e, upd_other _ _ e]
end
/-! ### The document's log -/
/-- Where its parts lie, and what no one can ask for. -/
structure DocB where
  A : Option Addr
  cap : Nat
  wb : Nat
  ob : Nat → Nat
  aN : Nat → Int
  at_ : Nat → Int
  left : Nat → Bool
  ov : Nat → Nat → OutV
def docCells (d : DocB) (s : LogS) : List Value := [.int .i64 s.cfg.sh, .int .i64 s.cfg.inb, .int .i64 s.cfg.sl, .int .i64 s.cfg.qu, .int .i64 s.cfg.ru, .int .i64 s.cfg.ou, .int .i64 s.cfg.st,
  .slice d.A s.tail d.cap, .bool s.closed, .int .i64 s.low, .slice (some ⟨d.wb, 0, none⟩) s.cfg.sh s.cfg.sh]
def LogS.cmdV (s : LogS) (p : Nat) : CmdV := (s.cmd p).getD CmdV.zero
def cellOf (d : DocB) (s : LogS) (p : Nat) : List Value := [.bool (s.cmd p).isSome, .bool (s.ans p).isSome, .int .i64 (s.cmdV p).kind, .int .i64 0, .int .i64 (s.cmdV p).n, .int .i64 0, .int .i64 0, .int .i64 0, .int .i64 0, .int .i64 0, .int .i64 0, .int .i64 0, .int .i64 0, .slice none 0 0, .int .i64 0, .bool false,
  .slice (some ⟨d.ob p, 0, none⟩) s.cfg.sh s.cfg.sh, .int .i64 0, .int .i64 (d.aN p), .slice none 0 0]
theorem cellOf_len (d : DocB) (s : LogS) (p : Nat) : (cellOf d s p).length = 20 := rfl
def wkOf (d : DocB) (i : Nat) : List Value := [.int .i64 (d.at_ i), .bool (d.left i)]
theorem wkOf_len (d : DocB) (i : Nat) : (wkOf d i).length = 2 := rfl
def outOf (f : Nat → OutV) (i : Nat) : List Value := (f i).cells
theorem outOf_len (f : Nat → OutV) (i : Nat) : (outOf f i).length = 4 := rfl
/-- The number that a worker told. -/
def LogS.num (s : LogS) (i p : Nat) : Int := ((s.out i p).map (·.2)).getD (-1)
/-- What lies in memory. -/
structure DocM where
  hd : List Value
  A : Option Addr
  cap : Nat
  n : Nat
  cf : Nat → List Value
  wb : Nat
  m : Nat
  wf : Nat → List Value
  ob : Nat → Nat
  of : Nat → Nat → List Value
def docM (d : DocB) (s : LogS) : DocM := ⟨docCells d s, d.A, d.cap, s.tail, cellOf d s, d.wb, s.cfg.sh, wkOf d, d.ob, fun p => outOf (d.ov p)⟩
structure RefM (w : World) (lo D : Nat) (M : DocM) : Prop where
  hD : w.heap[D]? = some (.cells M.hd.toArray 105 (0, 0))
  cells : w.ownsRow lo 131 20 (.slice M.A M.n M.cap) M.n (rowF M.cf M.n)
  wks : w.heap[M.wb]? = some (.cells (rowF M.wf M.m).toArray 133 (0, 0))
  outs : ∀ p, p < M.n → w.heap[M.ob p]? = some (.cells (rowF (M.of p) M.m).toArray 47 (0, 0))
  inj : ∀ p q, p < M.n → q < M.n → p ≠ q → M.ob p ≠ M.ob q
  len : (∀ p, (M.cf p).length = 20) ∧ (∀ i, (M.wf i).length = 2) ∧ ∀ p i, (M.of p i).length = 4
  lo : lo ≤ D ∧ lo ≤ M.wb ∧ ∀ p, p < M.n → lo ≤ M.ob p
structure RefAt (w : World) (lo D C : Nat) (d : DocB) (s : LogS) : Prop where
  mem : RefM w lo D (docM d s)
  lost : ∀ p i, p < s.tail → i < s.cfg.sh → LostIn w C (d.ov p i, s.num i p)
  cur : ∀ i, i < s.cfg.sh → s.cur i = if d.left i = true then -1 else d.at_ i
  at0 : ∀ i, 0 ≤ d.at_ i
  ans : ∀ (p : Nat) z, s.ans p = some z → d.aN p = z
  ansIn : ∀ k : Int, (s.ans k).isSome = true → 0 ≤ k ∧ k < s.tail
  inv : LogI s
  small : s.tail ≤ 1000000
/-- Is a thing of memory of a kind that the document's log is of? -/
def docT (C : Nat) (k : Nat) : Obj → Prop
  | .cells _ t _ => t = 105 ∨ t = 131 ∨ t = 133 ∨ t = 47 ∨ (t = 3 ∧ k ≠ C)
  | _ => False
theorem LostIn.keptD {w w' : World} {C : Nat} {x : OutV × Int} (h : LostIn w C x) (hk : ∀ (k : Nat) (o : Obj), w.heap[k]? = some o → docT C k o → w'.heap[k]? = some o) : LostIn w' C x := by
  rcases h with h | ⟨k, h1, h2, h3⟩
  · exact .inl h
  · exact .inr ⟨k, h1, h2, hk _ _ h3 (by simp [docT, h1])⟩
theorem RefM.keptD {w w' : World} {lo D C : Nat} {M : DocM} (h : RefM w lo D M) (hk : ∀ (k : Nat) (o : Obj), w.heap[k]? = some o → docT C k o → w'.heap[k]? = some o) : RefM w' lo D M :=
  ⟨hk _ _ h.hD (by simp [docT]), ownsRow_keptT h.cells (fun k cs fr hc => hk _ _ hc (by simp [docT])), hk _ _ h.wks (by simp [docT]), fun p hp => hk _ _ (h.outs p hp) (by simp [docT]), h.inj, h.len, h.lo⟩
theorem RefM.below {w w' : World} {lo D : Nat} {M : DocM} (h : RefM w lo D M) (hb : Below w.heap.size w w') : RefM w' lo D M := h.keptD (C := 0) fun k o hk _ => (hb.block k (block_lt hk)).trans hk
theorem RefAt.keptD {w w' : World} {lo D C : Nat} {d : DocB} {s : LogS} (h : RefAt w lo D C d s) (hk : ∀ (k : Nat) (o : Obj), w.heap[k]? = some o → docT C k o → w'.heap[k]? = some o) : RefAt w' lo D C d s :=
  ⟨h.mem.keptD hk, fun p i hp hi => (h.lost p i hp hi).keptD hk, h.cur, h.at0, h.ans, h.ansIn, h.inv, h.small⟩
theorem RefAt.below {w w' : World} {lo D C : Nat} {d : DocB} {s : LogS} (h : RefAt w lo D C d s) (hb : Below w.heap.size w w') : RefAt w' lo D C d s := h.keptD fun k o hk _ => (hb.block k (block_lt hk)).trans hk
/-- Is it one of the blocks that the document's log changes, by its kind? -/
def DocK (lo : Nat) (w : World) (k : Nat) : Prop := lo ≤ k ∧ ∃ cs t fr, w.heap[k]? = some (.cells cs t fr) ∧ (t = 105 ∨ t = 131 ∨ t = 133 ∨ t = 47)
/-- What a log changes leaves the document's as it was. -/
theorem RefAt.own {w w' : World} {lo lo' D L : Nat} {d : DocB} {b : LogB} {s s' : LogS} (h : RefAt w lo D b.C d s) (hl : LogAt w lo' L b s') (ho : Only (Own L b s'.cfg.sh) w w') : RefAt w' lo D b.C d s := by
  refine h.keptD fun k o hk hT => ho.block hk ?_
  intro hown
  match o, hT with
  | .cells cs t fr, hT =>
    have no : ∀ {cs' : Array Value} {t' : TypeId} {fr' : Nat × Nat}, w.heap[k]? = some (.cells cs' t' fr') → (t' = 94 ∨ t' = 117 ∨ t' = 124 ∨ t' = 120 ∨ t' = 128) → False := fun {cs' t' fr'} hk' ht' => by
      have e := hk.symm.trans hk'
      injection e with e
      injection e with _ e _
      subst e
      rcases hT with rfl | rfl | rfl | rfl | ⟨rfl, _⟩ <;> simp at ht'
    rcases hown with rfl | rfl | rfl | rfl | rfl | ⟨i, hi, rfl | rfl⟩
    · exact no hl.hL (by simp)
    · exact no hl.ring.hR (by simp)
    · exact no hl.ring.hB (by simp)
    · have e := hk.symm.trans hl.curs
      injection e with e
      injection e with _ e _
      subst e
      rcases hT with h | h | h | h | ⟨_, h⟩
      · cases h
      · cases h
      · cases h
      · cases h
      · exact h rfl
    · obtain ⟨an, D', _, ⟨es, clock, h1, _⟩, _⟩ := hl.ans.ex
      cases hk.symm.trans h1
    · exact no (hl.orng i hi).hR (by simp)
    · exact no (hl.orng i hi).hB (by simp)
/-- What the document's log changes leaves a log as it was. -/
theorem LogAt.doc {w w' : World} {lo lo' L : Nat} {b : LogB} {s : LogS} (h : LogAt w lo L b s) (ho : Only (DocK lo' w) w w') : LogAt w' lo L b s := by
  refine h.keptT fun k o hk hT => ho.block hk ?_
  rintro ⟨_, cs, t, fr, h1, h2⟩
  have e := hk.symm.trans h1
  injection e with e
  subst e
  rcases h2 with rfl | rfl | rfl | rfl <;> simp [logT] at hT
/-! ### What is laid into it -/
section
variable {w : World} {lo D : Nat} {M : DocM} (h : RefM w lo D M)
include h
theorem RefM.kD : DocK lo w D := ⟨h.lo.1, _, _, _, h.hD, .inl rfl⟩
theorem RefM.kW : DocK lo w M.wb := ⟨h.lo.2.1, _, _, _, h.wks, .inr (.inr (.inl rfl))⟩
theorem RefM.kO {p : Nat} (hp : p < M.n) : DocK lo w (M.ob p) := ⟨h.lo.2.2 p hp, _, _, _, h.outs p hp, .inr (.inr (.inr rfl))⟩
/-- The block of its cells. -/
theorem RefM.block (hp : 0 < M.n) : ∃ g cs, M.A = some ⟨g, 0, none⟩ ∧ lo ≤ g ∧ M.n ≤ M.cap ∧ w.heap[g]? = some (.cells cs 131 (0, 0)) ∧ (∀ p j, p < M.n → j < 20 → w.cell? ⟨g, p * 20 + j, none⟩ = (M.cf p)[j]?) ∧ ∀ i, w.frozen? ⟨g, i, none⟩ = false := by
  obtain ⟨g, hA, hg, hc, hlt, hcell⟩ := own_some h.cells hp
  have hk : ∃ cs, w.heap[g]? = some (.cells cs 131 (0, 0)) := by
    rcases h.cells.2 with ⟨h2, _⟩ | ⟨g', cap, cur, e, hb, hg', h3⟩
    · exact absurd h2 (by rw [hA]; simp)
    · rw [hA] at e
      injection e with e1 e2 e3
      injection e1 with e1
      injection e1 with e1
      subst e1
      exact ⟨_, hg'⟩
  obtain ⟨cs, hk⟩ := hk
  refine ⟨g, cs, hA, hg, hc, hk, fun p j hp hj => ?_, fun i => ?_⟩
  · have e := rowF_at (c := M.cf) h.len.1 hp hj
    have hl : ∃ u, (M.cf p)[j]? = some u := ⟨_, List.getElem?_eq_getElem (by rw [h.len.1]; exact hj)⟩
    obtain ⟨u, hu⟩ := hl
    rw [hu] at e ⊢
    exact hcell _ u e
  · have := h.cells
    rw [hA] at this
    exact own_free this i
theorem RefM.wk {i j : Nat} (hi : i < M.m) (hj : j < 2) : w.cell? ⟨M.wb, i * 2 + j, none⟩ = (M.wf i)[j]? := (cell_of_blk h.wks _).trans (rowF_at (c := M.wf) h.len.2.1 hi hj)
theorem RefM.out {p i j : Nat} (hp : p < M.n) (hi : i < M.m) (hj : j < 4) : w.cell? ⟨M.ob p, i * 4 + j, none⟩ = (M.of p i)[j]? := (cell_of_blk (h.outs p hp) _).trans (rowF_at (c := M.of p) (h.len.2.2 p) hi hj)
end
theorem upd_len {c : Nat → List Value} {K p : Nat} {l : List Value} (hc : ∀ q, (c q).length = K) (hl : l.length = K) : ∀ q, (upd c p l q).length = K := fun q => by
  unfold upd
  split
  · exact hl
  · exact hc q
theorem ownsRow_puts {w : World} {lo : Nat} {e : TypeId} {size g n c : Nat} : ∀ (vs xs : List Value) (w : World) (o : Nat), w.ownsRow lo e size (.slice (some ⟨g, 0, none⟩) n c) n xs → (puts w g o vs).ownsRow lo e size (.slice (some ⟨g, 0, none⟩) n c) n (putL xs o vs) := by
  intro vs
  induction vs with
  | nil => intro xs w o h; exact h
  | cons v vs ih => intro xs w o h; exact ih _ _ _ (ownsRow_set h o v)
theorem not_own_one {w : World} {lo : Nat} {e : TypeId} {size : Nat} {v : Value} {n : Nat} {xs : List Value} (h : w.ownsRow lo e size v n xs) {k : Nat} {cs : Array Value} {t : TypeId} {fr : Nat × Nat} (hb : w.heap[k]? = some (.cells cs t fr)) (ho : t ≠ e) : v.ownBlock ≠ some k :=
  not_own h hb fun cs' fr' e' => ho (by injection e')
section
variable {w : World} {lo D : Nat} {M : DocM} (h : RefM w lo D M)
include h
theorem RefM.cellput {g p o : Nat} (hA : M.A = some ⟨g, 0, none⟩) (hp : p < M.n) (vs : List Value) (ho : o + vs.length ≤ 20) : RefM (puts w g (p * 20 + o) vs) lo D { M with cf := upd M.cf p (putL (M.cf p) o vs) } := by
  obtain ⟨g', cs, hA', _, _, hg, _, _⟩ := h.block (by omega)
  obtain rfl : g = g' := by
    rw [hA] at hA'
    injection hA' with e
    injection e
  have hon := puts_only (S := fun k => k = g) rfl vs w w (p * 20 + o) (Only.refl _ _)
  have hne : ∀ {k : Nat} {cs' : Array Value} {t : TypeId} {fr : Nat × Nat}, w.heap[k]? = some (.cells cs' t fr) → t ≠ 131 → (puts w g (p * 20 + o) vs).heap[k]? = some (.cells cs' t fr) := fun hk ht => hon.block hk (blk_ne hk hg ht)
  refine ⟨hne h.hD (by decide), ?_, hne h.wks (by decide), fun q hq => hne (h.outs q hq) (by decide), h.inj, ⟨upd_len h.len.1 (by rw [putL_len]; exact h.len.1 p), h.len.2⟩, h.lo⟩
  have hc := h.cells
  rw [hA] at hc
  have := ownsRow_puts (w := w) vs _ w (p * 20 + o) hc
  rw [rowF_puts (by decide) vs M.cf h.len.1 hp ho] at this
  show (puts w g (p * 20 + o) vs).ownsRow lo 131 20 (.slice M.A M.n M.cap) M.n _
  rw [hA]
  exact this
theorem RefM.wkput {i o : Nat} (hi : i < M.m) (vs : List Value) (ho : o + vs.length ≤ 2) : RefM (puts w M.wb (i * 2 + o) vs) lo D { M with wf := upd M.wf i (putL (M.wf i) o vs) } := by
  have hon := puts_only (S := fun k => k = M.wb) rfl vs w w (i * 2 + o) (Only.refl _ _)
  have hne : ∀ {k : Nat} {cs' : Array Value} {t : TypeId} {fr : Nat × Nat}, w.heap[k]? = some (.cells cs' t fr) → t ≠ 133 → (puts w M.wb (i * 2 + o) vs).heap[k]? = some (.cells cs' t fr) := fun hk ht => hon.block hk (blk_ne hk h.wks ht)
  refine ⟨hne h.hD (by decide), ?_, ?_, fun q hq => hne (h.outs q hq) (by decide), h.inj, ⟨h.len.1, upd_len h.len.2.1 (by rw [putL_len]; exact h.len.2.1 i), h.len.2.2⟩, h.lo⟩
  · refine ownsRow_kept h.cells hon fun k hk => ?_
    subst hk
    exact not_own_one h.cells h.wks (by decide)
  · have := puts_same vs w _ (i * 2 + o) h.wks
    rw [rowF_puts (by decide) vs M.wf h.len.2.1 hi ho] at this
    exact this
theorem RefM.output {p i o : Nat} (hp : p < M.n) (hi : i < M.m) (vs : List Value) (ho : o + vs.length ≤ 4) : RefM (puts w (M.ob p) (i * 4 + o) vs) lo D { M with of := fun q => if q = p then upd (M.of p) i (putL (M.of p i) o vs) else M.of q } := by
  have hon := puts_only (S := fun k => k = M.ob p) rfl vs w w (i * 4 + o) (Only.refl _ _)
  have hne : ∀ {k : Nat} {cs' : Array Value} {t : TypeId} {fr : Nat × Nat}, w.heap[k]? = some (.cells cs' t fr) → t ≠ 47 → (puts w (M.ob p) (i * 4 + o) vs).heap[k]? = some (.cells cs' t fr) := fun hk ht => hon.block hk (blk_ne hk (h.outs p hp) ht)
  refine ⟨hne h.hD (by decide), ?_, hne h.wks (by decide), fun q hq => ?_, h.inj, ⟨h.len.1, h.len.2.1, fun q j => ?_⟩, h.lo⟩
  · refine ownsRow_kept h.cells hon fun k hk => ?_
    subst hk
    exact not_own_one h.cells (h.outs p hp) (by decide)
  · show (puts w (M.ob p) (i * 4 + o) vs).heap[M.ob q]? = some (.cells (rowF (if q = p then upd (M.of p) i (putL (M.of p i) o vs) else M.of q) M.m).toArray 47 (0, 0))
    by_cases e : q = p
    · subst e
      rw [if_pos rfl]
      have := puts_same vs w _ (i * 4 + o) (h.outs q hq)
      rw [rowF_puts (by decide) vs (M.of q) (h.len.2.2 q) hi ho] at this
      exact this
    · rw [if_neg e]
      exact hon.block (h.outs q hq) (h.inj q p hq hp e)
  · show ((if q = p then upd (M.of p) i (putL (M.of p i) o vs) else M.of q) j).length = 4
    split
    · exact upd_len (h.len.2.2 p) (by rw [putL_len]; exact h.len.2.2 p i) j
    · exact h.len.2.2 q j
theorem RefM.headset (j : Nat) (v : Value) : RefM (w.setCell ⟨D, j, none⟩ v) lo D { M with hd := M.hd.set j v } := by
  have hon : Only (fun k => k = D) w (w.setCell ⟨D, j, none⟩ v) := (Only.refl _ _).setCell _ _ (.inl rfl)
  have hne : ∀ {k : Nat} {cs' : Array Value} {t : TypeId} {fr : Nat × Nat}, w.heap[k]? = some (.cells cs' t fr) → t ≠ 105 → (w.setCell ⟨D, j, none⟩ v).heap[k]? = some (.cells cs' t fr) := fun hk ht => hon.block hk (blk_ne hk h.hD ht)
  refine ⟨setCell_same h.hD v, ?_, hne h.wks (by decide), fun q hq => hne (h.outs q hq) (by decide), h.inj, h.len, h.lo⟩
  refine ownsRow_kept h.cells hon fun k hk => ?_
  subst hk
  exact not_own_one h.cells h.hD (by decide)
theorem RefM.congr {N : DocM} (h1 : M.hd = N.hd) (h2 : M.A = N.A ∧ M.cap = N.cap ∧ M.n = N.n ∧ M.wb = N.wb ∧ M.m = N.m ∧ M.ob = N.ob) (hc : ∀ p, p < N.n → M.cf p = N.cf p) (hw : ∀ i, i < N.m → M.wf i = N.wf i) (ho : ∀ p i, p < N.n → i < N.m → M.of p i = N.of p i) (hl : (∀ p, (N.cf p).length = 20) ∧ (∀ i, (N.wf i).length = 2) ∧ ∀ p i, (N.of p i).length = 4) : RefM w lo D N := by
  obtain ⟨hd, A, cap, n, cf, wb, m, wf, ob, of⟩ := M
  obtain ⟨hd', A', cap', n', cf', wb', m', wf', ob', of'⟩ := N
  obtain ⟨e1, e2, e3, e4, e5, e6⟩ := h2
  simp only at h1 e1 e2 e3 e4 e5 e6 hc hw ho hl
  subst h1 e1 e2 e3 e4 e5 e6
  refine ⟨h.hD, ?_, ?_, fun p hp => ?_, h.inj, hl, h.lo⟩
  · rw [← rowF_congr hc]; exact h.cells
  · rw [← rowF_congr hw]; exact h.wks
  · rw [← rowF_congr (fun i hi => ho p i hp hi)]; exact h.outs p hp
end
section
variable {w : World} {lo D C : Nat} {d : DocB} {s : LogS} (h : RefAt w lo D C d s)
include h
theorem RefAt.cell (i : Nat) : w.cell? ⟨D, i, none⟩ = (docCells d s)[i]? := cell_of_blk h.mem.hD i
theorem RefAt.wk {i : Nat} (hi : i < s.cfg.sh) : w.cell? ⟨d.wb, i * 2, none⟩ = some (.int .i64 (d.at_ i)) ∧ w.cell? ⟨d.wb, i * 2 + 1, none⟩ = some (.bool (d.left i)) := ⟨h.mem.wk hi (j := 0) (by decide), h.mem.wk hi (j := 1) (by decide)⟩
theorem RefAt.block {p : Nat} (hp : p < s.tail) : ∃ g, d.A = some ⟨g, 0, none⟩ ∧ lo ≤ g ∧ s.tail ≤ d.cap ∧ DocK lo w g ∧ (∀ j, j < 20 → w.cell? ⟨g, p * 20 + j, none⟩ = (cellOf d s p)[j]?) ∧ ∀ i, w.frozen? ⟨g, i, none⟩ = false := by
  obtain ⟨g, cs, h1, h2, h3, h4, h5, h6⟩ := h.mem.block (by show 0 < s.tail; omega)
  exact ⟨g, h1, h2, h3, ⟨h2, _, _, _, h4, .inr (.inl rfl)⟩, fun j hj => h5 p j hp hj, h6⟩
end
end Go.Proofs.Ytibbnikfecilhaa
