/- What an argument reads as: kinds of data (numbers, bools, texts, structs, arrays, slices, and slices of these), each with what its reading in memory gives a walk. No program in it. -/
import Derived.Test.YtecdnpdmjbcioaaBase
import Derived.ProofKit
import Derived.OpenShut
import Derived.SizedLaws
import Derived.Deep.Slices
namespace Go.Proofs.Ytecdnpdmjbcioaa
open Go.ChangeShapes Go.WideShapes Go.RowKit
set_option linter.unusedVariables false

/-- A kind of data: how many cells it takes, and when cells read as one. -/
structure Kind (α : Type) where
  sz : Nat
  R : World → List Value → α → Prop
def kInt (k : IntKind) : Kind Int := ⟨1, fun _ cs x => cs = [.int k x] ∧ (Lit.int k x).wf = true⟩
def kBool : Kind Bool := ⟨1, fun _ cs x => cs = [.bool x]⟩
def kStr : Kind ByteArray := ⟨1, fun _ cs x => cs = [.string x] ∧ x.size ≤ 140737488351232⟩
def kPair {α β : Type} (a : Kind α) (b : Kind β) : Kind (α × β) := ⟨a.sz + b.sz, fun w cs x => cs.length = a.sz + b.sz ∧ a.R w (cs.take a.sz) x.1 ∧ b.R w (cs.drop a.sz) x.2⟩
/-- A row of things behind an address. -/
structure RowAt {α : Type} (d : Kind α) (bytes : Nat) (w : World) (a : Option Addr) (n : Nat) (xs : List α) : Prop where
  len : xs.length = n
  small : n * bytes ≤ 140737488351232
  cells : 0 < n → ∃ b off, a = some ⟨b, off, none⟩ ∧ b < w.heap.size ∧ ∀ (i : Nat) (x : α), xs[i]? = some x → ∃ cs, cs.length = d.sz ∧ (∀ j, j < d.sz → w.cell? ⟨b, off + i * d.sz + j, none⟩ = cs[j]?) ∧ d.R w cs x
def kSlice {α : Type} (d : Kind α) (bytes : Nat) : Kind (List α) := ⟨1, fun w cs xs => ∃ a len cap, cs = [.slice a len cap] ∧ len ≤ cap ∧ cap ≤ maxLen ∧ (a = none → len = 0 ∧ cap = 0) ∧ RowAt d bytes w a len xs⟩
/-- An array: its elements one behind the other. -/
def kArr {α : Type} (d : Kind α) (n : Nat) : Kind (List α) := ⟨n * d.sz, fun w cs xs => cs.length = n * d.sz ∧ xs.length = n ∧ ∀ (i : Nat) (x : α), xs[i]? = some x → d.R w ((cs.drop (i * d.sz)).take d.sz) x⟩

section
variable {H : Type} {enc : TypeId × Value → H} {P : Program}
/-- Whatever reads as a datum of type t (and is no heavier than rows let in) is of kind d. -/
def Opens (enc : TypeId × Value → H) (P : Program) (t : TypeId) {α : Type} (d : Kind α) : Prop :=
  ∀ (w : World) (fuel : Nat) (cs : List Value) (x : DataW H × List MemPlace), DataW.trod enc P w 0 (fun _ => true) true fuel t cs = some x → (x.1.weights P t).all (· ≤ reachBytes) = true → ∃ v, d.R w cs v

theorem opens_int {t : TypeId} {k : IntKind} (ht : P.underlying t = some (.int k)) : Opens enc P t (kInt k) := fun w fuel cs x h _ => by
  obtain ⟨n, rfl, rfl, hw⟩ := DataW.trod_int ht h
  exact ⟨n, rfl, hw⟩
theorem opens_bool {t : TypeId} (ht : P.underlying t = some .bool) : Opens enc P t kBool := fun w fuel cs x h _ => by
  obtain ⟨n, rfl, rfl⟩ := DataW.trod_bool ht h
  exact ⟨n, rfl⟩
theorem opens_str {t : TypeId} (ht : P.underlying t = some .string) : Opens enc P t kStr := fun w fuel cs x h hw => by
  obtain ⟨s, rfl, rfl, hs⟩ := DataW.trod_string ht h
  refine ⟨s, rfl, ?_⟩
  simp [DataW.weights] at hw
  have : reachBytes = 140737488351232 := rfl
  omega

theorem cells_get {w : World} {base n : Nat} {a : Addr} {cs : List Value} (h : w.cells? base a n = some cs) : cs.length = n ∧ ∀ j, j < n → w.cell? (a.add j) = cs[j]? := by
  unfold World.cells? at h
  split at h
  · refine ⟨by simpa using mapM_some_length h, fun j hj => mapM_some_get h j j (by simp [hj])⟩
  · cases h

theorem rows_of {α : Type} {n : Nat} {Q : Nat → α → Prop} (h : ∀ i, i < n → ∃ v, Q i v) : ∃ xs : List α, xs.length = n ∧ ∀ (i : Nat) (x : α), xs[i]? = some x → Q i x := by
  induction n with
  | zero => exact ⟨[], rfl, fun i x hx => by simp at hx⟩
  | succ n ih =>
    obtain ⟨xs, h1, h2⟩ := ih (fun i hi => h i (by omega))
    obtain ⟨v, hv⟩ := h n (by omega)
    refine ⟨xs ++ [v], by simp [h1], fun i x hx => ?_⟩
    rcases Nat.lt_trichotomy i n with hlt | rfl | hgt
    · rw [List.getElem?_append_left (by omega)] at hx; exact h2 i x hx
    · rw [List.getElem?_append_right (by omega)] at hx
      simp [h1] at hx
      subst hx
      exact hv
    · rw [List.getElem?_eq_none (by simp; omega)] at hx; cases hx
theorem opens_slice {t e : TypeId} {α : Type} {d : Kind α} {bytes : Nat} (ht : P.underlying t = some (.slice e)) (he : Opens enc P e d) (hc : P.cellsOf e = d.sz) (h1 : 1 ≤ d.sz) (hB : P.bytesOf e = bytes) : Opens enc P t (kSlice d bytes) := fun w fuel cs x h hw => by
  rcases Go.Deep.open_slice ht h with ⟨rfl, rfl⟩ | ⟨a, len, cap, m, n, D, Pl, rfl, _, hl, hm, hmc, rfl, hel⟩
  · exact ⟨[], none, 0, 0, rfl, by omega, by simp [maxLen], fun _ => ⟨rfl, rfl⟩, rfl, by omega, fun h => by omega⟩
  · simp only [if_true] at hmc
    obtain rfl := hmc.symm
    simp only [DataW.weights, ht, List.length_map, List.length_range, List.all_cons, List.all_append, Bool.and_eq_true, decide_eq_true_eq] at hw
    obtain ⟨hw0, hw1, _⟩ := hw
    have hwt : ∀ i, i < len → ((D i).weights P e).all (· ≤ reachBytes) = true := by
      intro i hi
      rw [List.all_eq_true]
      intro y hy
      refine List.all_eq_true.1 hw1 y ?_
      have hmem : D i ∈ (List.range len).map D := List.mem_map.2 ⟨i, List.mem_range.2 hi, rfl⟩
      generalize (List.range len).map D = l at hmem
      induction l with
      | nil => cases hmem
      | cons q l ih =>
        simp only [DataW.weightsAll, List.mem_append]
        rcases List.mem_cons.1 hmem with rfl | hm'
        · exact .inl hy
        · exact .inr (ih hm')
    have hone : ∀ i, i < len → ∃ v cs', cs'.length = d.sz ∧ (∀ j, j < d.sz → w.cell? (a.add (i * d.sz + j)) = cs'[j]?) ∧ d.R w cs' v := by
      intro i hi
      obtain ⟨cs', hcs, htr⟩ := hel i (by omega)
      obtain ⟨v, hv⟩ := he w n cs' _ htr (hwt i hi)
      rw [hc] at hcs
      obtain ⟨g1, g2⟩ := cells_get hcs
      exact ⟨v, cs', g1, fun j hj => by rw [← Go.Deep.add_add]; exact g2 j hj, hv⟩
    obtain ⟨xs, g1, g2⟩ := rows_of hone
    refine ⟨xs, some a, len, cap, rfl, hl, hm, (fun h => by cases h), g1, ?_, fun hp => ?_⟩
    · have : reachBytes = 140737488351232 := rfl
      rw [hB, show len + (cap - len) = cap by omega] at hw0
      exact Nat.le_trans (Nat.mul_le_mul_right _ hl) (by omega)
    · obtain ⟨b, off, spot⟩ := a
      obtain ⟨cs0, k0, k1, _⟩ := g2 0 (xs[0]'(by omega)) (by simp)
      have k2 := k1 0 (by omega)
      obtain ⟨c0, hc0⟩ : ∃ c, cs0[0]? = some c := ⟨cs0[0]'(by omega), by simp⟩
      rw [hc0] at k2
      have hspot : spot = none := by simpa [Addr.add] using World.cell?_spot k2
      subst hspot
      have hlt : b < w.heap.size := by
        have := World.block_lt_of_cell? w _ k2
        simpa [Addr.add] using this
      refine ⟨b, off, rfl, hlt, fun i x hx => ?_⟩
      obtain ⟨cs', j1, j2, j3⟩ := g2 i x hx
      refine ⟨cs', j1, fun j hj => ?_, j3⟩
      have := j2 j hj
      rwa [Go.WideShapes.add_plain, ← Nat.add_assoc] at this

/-- The fields of a struct, one behind the other from a place on. -/
def FieldsOf (enc : TypeId × Value → H) (P : Program) (fs : List Field) (off : Nat) {α : Type} (d : Kind α) : Prop :=
  ∀ (w : World) (n : Nat) (cs : List Value) (xs : List (DataW H × List MemPlace)), xs.length = fs.length → cs.length = off + d.sz →
    (∀ (i : Nat) (f : Field), fs[i]? = some f → DataW.trod enc P w 0 (fun _ => true) true n f.type ((cs.drop f.offset).take (P.cellsOf f.type)) = xs[i]?) →
    (DataW.weightsEach P (fs.map (·.type)) (xs.map (·.1))).all (· ≤ reachBytes) = true → ∃ v, d.R w (cs.drop off) v
theorem fields_one {f : Field} {off : Nat} {α : Type} {d : Kind α} (ho : f.offset = off) (hc : P.cellsOf f.type = d.sz) (h : Opens enc P f.type d) : FieldsOf enc P [f] off d := fun w n cs xs hx hl hf hw => by
  match xs, hx with
  | [x], _ =>
    have h0 := hf 0 f rfl
    simp only [List.map_cons, List.map_nil, DataW.weightsEach, List.append_nil] at hw
    obtain ⟨v, hv⟩ := h w n _ x h0 hw
    rw [ho, hc, List.take_of_length_le (by simp; omega)] at hv
    exact ⟨v, hv⟩
theorem fields_cons {f : Field} {fs : List Field} {off : Nat} {α β : Type} {d : Kind α} {d' : Kind β} (ho : f.offset = off) (hc : P.cellsOf f.type = d.sz) (h : Opens enc P f.type d) (h' : FieldsOf enc P fs (off + d.sz) d') :
    FieldsOf enc P (f :: fs) off (kPair d d') := fun w n cs xs hx hl hf hw => by
  match xs, hx with
  | x :: xs, hx =>
    have h0 := hf 0 f rfl
    simp only [List.map_cons, DataW.weightsEach, List.all_append, Bool.and_eq_true] at hw
    simp only [kPair] at hl
    obtain ⟨v, hv⟩ := h w n _ x h0 hw.1
    obtain ⟨u, hu⟩ := h' w n cs xs (by simpa using hx) (by omega) (fun i g hg => hf (i + 1) g (by simpa using hg)) hw.2
    rw [ho, hc] at hv
    exact ⟨(v, u), by simp; omega, hv, by rwa [← List.drop_drop] at hu⟩
theorem opens_struct {t : TypeId} {fs : Array Field} {α : Type} {d : Kind α} (ht : P.underlying t = some (.struct fs)) (hc : P.cellsOf t = d.sz) (h : FieldsOf enc P fs.toList 0 d) : Opens enc P t d := fun w fuel cs x hx hw => by
  obtain ⟨xs, n, _, rfl, hl, hxl, hf⟩ := DataW.trod_struct ht hx
  simp only [DataW.weights, ht] at hw
  obtain ⟨v, hv⟩ := h w n cs xs (by simpa using hxl) (by omega) (fun i f hi => hf i f (by simpa using hi)) hw
  exact ⟨v, hv⟩
theorem weightsAll_mem {t : TypeId} {l : List (DataW H)} (h : (DataW.weightsAll P t l).all (· ≤ reachBytes) = true) : ∀ d ∈ l, (d.weights P t).all (· ≤ reachBytes) = true := by
  induction l with
  | nil => intro d hd; cases hd
  | cons q l ih =>
    simp only [DataW.weightsAll, List.all_append, Bool.and_eq_true] at h
    intro d hd
    rcases List.mem_cons.1 hd with rfl | hd
    · exact h.1
    · exact ih h.2 d hd
theorem opens_arr {t e : TypeId} {n : Nat} {α : Type} {d : Kind α} (ht : P.underlying t = some (.array n e)) (hc : P.cellsOf t = n * d.sz) (he : P.cellsOf e = d.sz) (h : Opens enc P e d) : Opens enc P t (kArr d n) := fun w fuel cs x hx hw => by
  obtain ⟨xs, m, _, rfl, hl, hxl, hf⟩ := DataW.trod_array ht hx
  simp only [DataW.weights, ht] at hw
  have hone : ∀ i, i < n → ∃ v, d.R w ((cs.drop (i * d.sz)).take d.sz) v := by
    intro i hi
    have h0 := hf i hi
    rw [List.getElem?_eq_getElem (by omega)] at h0
    obtain ⟨v, hv⟩ := h w m _ _ h0 (weightsAll_mem hw _ (List.mem_map.2 ⟨_, List.getElem_mem _, rfl⟩))
    rw [he] at hv
    exact ⟨v, hv⟩
  obtain ⟨ys, g1, g2⟩ := rows_of hone
  exact ⟨ys, by omega, g1, g2⟩
end

/-- What a law's row gives of one argument: its cells, of a kind. -/
theorem arg_of {H : Type} {enc : TypeId × Value → H} {P : Program} {W : World} {t : TypeId} {v : Value} {d : DataW H} {p : List MemPlace} {α : Type} {k : Kind α} {ts : List TypeId} {ds : List (DataW H)} {j : Nat}
    (ho : Opens enc P t k) (hsz : (DataW.weightsEach P ts ds).all (· ≤ reachBytes) = true) (ht : ts[j]? = some t) (hd : ds[j]? = some d) (h : DataW.Trod enc P W 0 (fun _ => true) true t v d p) : ∃ x, k.R W v.cells.toList x := by
  obtain ⟨fuel, hf⟩ := h
  refine ho W fuel _ _ hf ?_
  rw [List.all_eq_true] at hsz ⊢
  exact fun y hy => hsz y (DataW.weights_mem_each ht hd y hy)

/-- A slice of whole numbers that can be read. -/
structure IntsAt (w : World) (a : Option Addr) (n : Nat) (zs : List Int) : Prop where
  len : zs.length = n
  small : n * 8 ≤ 140737488351232
  cells : 0 < n → ∃ b off, a = some ⟨b, off, none⟩ ∧ b < w.heap.size ∧ ∀ i, i < n → w.cell? ⟨b, off + i, none⟩ = some (.int .i64 (zs.getD i 0))
  wf : ∀ z ∈ zs, -9223372036854775808 ≤ z ∧ z ≤ 9223372036854775807
theorem RowAt.ints {w : World} {a : Option Addr} {n : Nat} {zs : List Int} (h : RowAt (kInt .i64) 8 w a n zs) : IntsAt w a n zs := by
  refine ⟨h.len, h.small, fun hp => ?_, fun z hz => ?_⟩
  · obtain ⟨b, off, rfl, hb, hc⟩ := h.cells hp
    refine ⟨b, off, rfl, hb, fun i hi => ?_⟩
    have hx : zs[i]? = some (zs.getD i 0) := by
      rw [List.getD_eq_getElem?_getD, List.getElem?_eq_getElem (by rw [h.len]; exact hi)]; rfl
    obtain ⟨cs, _, h2, rfl, _⟩ := hc i _ hx
    have := h2 0 (by decide)
    simpa [kInt] using this
  · obtain ⟨i, hi⟩ := List.getElem?_of_mem hz
    have hlt : i < n := by
      rw [← h.len]
      exact (List.getElem?_eq_some_iff.1 hi).1
    obtain ⟨b, off, rfl, hb, hc⟩ := h.cells (by omega)
    obtain ⟨cs, _, _, _, hw⟩ := hc i _ hi
    exact bounds_i64 hw

/-- A slice of structs of three whole numbers. -/
structure ActsAt (w : World) (a : Option Addr) (n : Nat) (l : List (Int × Int × Int)) : Prop where
  len : l.length = n
  small : n * 24 ≤ 140737488351232
  cells : 0 < n → ∃ b off, a = some ⟨b, off, none⟩ ∧ b < w.heap.size ∧ ∀ i, i < n → w.cell? ⟨b, off + i * 3, none⟩ = some (.int .i64 (l.getD i (0, 0, 0)).1) ∧ w.cell? ⟨b, off + i * 3 + 1, none⟩ = some (.int .i64 (l.getD i (0, 0, 0)).2.1) ∧
    w.cell? ⟨b, off + i * 3 + 2, none⟩ = some (.int .i64 (l.getD i (0, 0, 0)).2.2)
  wf : ∀ z ∈ l, (-9223372036854775808 ≤ z.1 ∧ z.1 ≤ 9223372036854775807) ∧ (-9223372036854775808 ≤ z.2.1 ∧ z.2.1 ≤ 9223372036854775807) ∧ (-9223372036854775808 ≤ z.2.2 ∧ z.2.2 ≤ 9223372036854775807)
theorem RowAt.acts {w : World} {a : Option Addr} {n : Nat} {l : List (Int × Int × Int)} (h : RowAt (kPair (kInt .i64) (kPair (kInt .i64) (kInt .i64))) 24 w a n l) : ActsAt w a n l := by
  have key : ∀ {b off : Nat} {i : Nat} {x : Int × Int × Int}, (∃ cs : List Value, cs.length = 3 ∧ (∀ j, j < 3 → w.cell? ⟨b, off + i * 3 + j, none⟩ = cs[j]?) ∧ (kPair (kInt .i64) (kPair (kInt .i64) (kInt .i64))).R w cs x) →
      (w.cell? ⟨b, off + i * 3, none⟩ = some (.int .i64 x.1) ∧ w.cell? ⟨b, off + i * 3 + 1, none⟩ = some (.int .i64 x.2.1) ∧ w.cell? ⟨b, off + i * 3 + 2, none⟩ = some (.int .i64 x.2.2)) ∧
      (Lit.int .i64 x.1).wf = true ∧ (Lit.int .i64 x.2.1).wf = true ∧ (Lit.int .i64 x.2.2).wf = true := by
    rintro b off i x ⟨cs, h1, h2, h3⟩
    match cs, h1 with
    | [c0, c1, c2], _ =>
      simp only [kPair, kInt] at h3
      simp at h3
      obtain ⟨⟨rfl, g0⟩, ⟨rfl, g1⟩, rfl, g2⟩ := h3
      exact ⟨⟨by simpa using h2 0 (by decide), by simpa using h2 1 (by decide), by simpa using h2 2 (by decide)⟩, g0, g1, g2⟩
  refine ⟨h.len, h.small, fun hp => ?_, fun z hz => ?_⟩
  · obtain ⟨b, off, rfl, hb, hc⟩ := h.cells hp
    refine ⟨b, off, rfl, hb, fun i hi => ?_⟩
    have hx : l[i]? = some (l.getD i (0, 0, 0)) := by
      rw [List.getD_eq_getElem?_getD, List.getElem?_eq_getElem (by rw [h.len]; exact hi)]; rfl
    exact (key (hc i _ hx)).1
  · obtain ⟨i, hi⟩ := List.getElem?_of_mem hz
    have hlt : i < n := by
      rw [← h.len]
      exact (List.getElem?_eq_some_iff.1 hi).1
    obtain ⟨b, off, rfl, hb, hc⟩ := h.cells (by omega)
    obtain ⟨_, g0, g1, g2⟩ := key (hc i _ hi)
    exact ⟨bounds_i64 g0, bounds_i64 g1, bounds_i64 g2⟩
/-- One act, at every later world of the call. -/
theorem ActsAt.at_ {w : World} {a : Option Addr} {n : Nat} {l : List (Int × Int × Int)} (h : ActsAt w a n l) {i : Nat} (hi : i < n) :
    ∃ b off k at_ x, a = some ⟨b, off, none⟩ ∧ l.getD i (0, 0, 0) = (k, at_, x) ∧ ((-9223372036854775808 ≤ k ∧ k ≤ 9223372036854775807) ∧ (-9223372036854775808 ≤ at_ ∧ at_ ≤ 9223372036854775807) ∧ (-9223372036854775808 ≤ x ∧ x ≤ 9223372036854775807)) ∧
      ∀ W, Below w.heap.size w W → W.cell? ⟨b, off + i * 3, none⟩ = some (.int .i64 k) ∧ W.cell? ⟨b, off + i * 3 + 1, none⟩ = some (.int .i64 at_) ∧ W.cell? ⟨b, off + i * 3 + 2, none⟩ = some (.int .i64 x) := by
  obtain ⟨b, off, rfl, hb, hc⟩ := h.cells (by omega)
  refine ⟨b, off, (l.getD i (0, 0, 0)).1, (l.getD i (0, 0, 0)).2.1, (l.getD i (0, 0, 0)).2.2, rfl, rfl, ?_, fun W hW => ?_⟩
  · refine h.wf _ ?_
    rw [List.getD_eq_getElem?_getD, List.getElem?_eq_getElem (by rw [h.len]; exact hi)]
    exact List.getElem_mem _
  · obtain ⟨c0, c1, c2⟩ := hc i hi
    exact ⟨(hW.cell (p := ⟨b, off + i * 3, none⟩) hb).trans c0, (hW.cell (p := ⟨b, off + i * 3 + 1, none⟩) hb).trans c1, (hW.cell (p := ⟨b, off + i * 3 + 2, none⟩) hb).trans c2⟩
end Go.Proofs.Ytecdnpdmjbcioaa
