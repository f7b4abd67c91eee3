/- A loop over an iterator that stores into cells of its own between two rounds; its body always goes on. Of no program. -/
import Derived.Test.YtmiijnemacgbiaaTupM
namespace Go.Proofs.Ytmiijnemacgbiaa
open Go.RowKit Go.Shelf
set_option linter.unusedVariables false
set_option linter.unusedSimpArgs false

/-- What stands through a store into a block from B on, of a type that St names. -/
def StandsSt {β : Type} (B : Nat) (St : TypeId → Prop) (J : β → World → Prop) : Prop :=
  ∀ s (W : World) (b i : Nat) (v : Value) (cs : Array Value) (t : TypeId) (fr : Nat × Nat), J s W → B ≤ b → W.heap[b]? = some (.cells cs t fr) → St t → J s (W.setCell ⟨b, i, none⟩ v)
theorem setCell_noncell {W : World} {b i k : Nat} {v : Value} {cs : Array Value} {t : TypeId} {fr : Nat × Nat} {o : Obj} (hb : W.heap[b]? = some (.cells cs t fr)) (hk : W.heap[k]? = some o) (ho : o.isCells = false) : (W.setCell ⟨b, i, none⟩ v).heap[k]? = some o := by
  refine (Below.heap_setCell W ⟨b, i, none⟩ v k ?_).trans hk
  rintro rfl
  have := hb.symm.trans hk
  simp at this
  subst this
  cases ho
theorem range_stores {α : Type} {F : Fence} {n : Nat} {P : Program} {g : Operand} {ps : Array Tmp} {assign body : Code} {Q : Exit → Act → World → Prop} {a : Act} {w : World}
    (hro : F.round = none) (h1 : 1 ≤ n) {gf : Nat} {lb : Array Value} (hg : a.eval g = .func (.func gf) #[] lb) (hFg : F.fn gf) (eg : ∀ args w, (callFunc gf args).run P w = .ok (.enter gf args) w)
    (encs : α → Array Value) (hps : ∀ x, (encs x).size = ps.size) (Kp : World → World → Prop) (hKt : ∀ {A B C : World}, Kp A B → Kp B C → Kp A C)
    (hKb : ∀ (W : World) (l : Nat) (o o' : Obj), w.heap.size ≤ l → W.heap[l]? = some o → o.isCells = false → Kp W (W.putObj l o'))
    (I : List α → World → Prop) (hI : OwnFrom w.heap.size I) (St : TypeId → Prop) (hSt : StandsSt w.heap.size St I) (h0 : I [] w) (a1 : α → Act)
    (hassign : ∀ (l : Nat) (x : α) (W : World) (K : Act → World → Prop), K (a1 x) W → assign.wpIn (F.inRound l) (n - 1 - 1) P (Exit.then K (fun _ _ _ => False)) { tmps := (ps.zip (encs x)).foldl (fun t (p, v) => t.setIfInBounds p v) a.tmps, defers := [] } W)
    (N : Nat) (hbody : ∀ (l : Nat) (pre : List α) (x : α) (W : World), I pre W → pre.length < N → body.wpIn (F.inRound l) (n - 1 - 1) P (fun e _ W' => e = .normal ∧ KeepsFrom w.heap.size W W' ∧ Kp W W' ∧ I (pre ++ [x]) W') (a1 x) W)
    (S : List α → Prop)
    (hit : ∀ (l : Nat) (J : List α → World → Prop) (W : World), Below w.heap.size w W → AbidesFrom W.heap.size J → StandsSt W.heap.size St J →
      (∀ pre x W1, J pre W1 → pre.length < N → YieldAt F (n - 1 - 1) P l (encs x) W1 fun e W' => e = .returned (.bool true) ∧ J (pre ++ [x]) W' ∧ Kp W1 W') → J [] W →
      CallsIn F (n - 1) P gf (#[.func (.yield l) #[] #[]] ++ lb) W fun e W' => (∃ v, e = .returned v) ∧ ∃ xs, S xs ∧ J xs W')
    (hdone : ∀ (D : Nat) (xs : List α) (W : World), w.heap.size ≤ D → S xs → I xs W → W.heap[D]? = some (.deferred (some [])) → Q .normal { a with defers := { target := .collected D, args := #[] } :: a.defers } W) :
    (Code.rangeFunc g ps assign body).wpIn F n P Q a w := by
  refine wpIn_rangeFunc fun fn hfn => ?_
  rw [hro]
  -- the loop's record, and the two blocks of book-keeping
  obtain ⟨rc, hrc⟩ : ∃ rc : LoopState → Loop, rc = fun st => { state := st, pending := none, fn, tmps := a.tmps, params := ps, assign, body, defers := w.heap.size } := ⟨_, rfl⟩
  obtain ⟨V, hV⟩ : ∃ V, (w.alloc (.deferred (some []))).alloc (.loop (rc .ready)) = V := ⟨_, rfl⟩
  have hz : (w.alloc (.deferred (some []))).heap.size = w.heap.size + 1 := by simp
  have vL : V.heap[w.heap.size + 1]? = some (.loop (rc .ready)) := by
    have := alloc_new (w.alloc (.deferred (some []))) (.loop (rc .ready))
    rwa [hz, hV] at this
  have vD : V.heap[w.heap.size]? = some (.deferred (some [])) := by
    rw [← hV]; exact alloc_old (alloc_new w _) _
  have vI : I [] V := by rw [← hV]; exact hI.alloc _ (hI.alloc _ h0)
  have vB : Below w.heap.size w V := by rw [← hV]; exact bl_alloc (bl_alloc (Below.refl _ _) _) _
  have vZ : V.heap.size = w.heap.size + 2 := by rw [← hV]; simp
  let J : List α → World → Prop := fun pre W => I pre W ∧ W.heap[w.heap.size + 1]? = some (.loop (rc .ready)) ∧ W.heap[w.heap.size]? = some (.deferred (some []))
  have hJa : AbidesFrom V.heap.size J := by
    rintro pre W W' row ⟨h1, h2, h3⟩ hgr hr
    have hw : ∀ r, row = some r → w.heap.size ≤ r ∧ ∃ o : Obj, W.heap[r]? = some o ∧ o.isCells = false := fun r e => by
      obtain ⟨hB, o, ho, hk⟩ := hr r e
      exact ⟨by omega, o, ho, Obj.not_cells_of_walk hk⟩
    have hn : ∀ k o, W.heap[k]? = some o → k < w.heap.size + 2 → W'.heap[k]? = some o := fun k o hk hlt => by
      refine (hgr.block k (block_lt hk) ?_).trans hk
      intro e
      have := (hr k e.symm).1
      omega
    exact ⟨hI pre W W' row h1 hgr hw, hn _ _ h2 (by omega), hn _ _ h3 (by omega)⟩
  have hJs : StandsSt V.heap.size St J := by
    rintro pre W b i v cs t fr ⟨h1, h2, h3⟩ hB hb ht
    exact ⟨hSt pre W b i v cs t fr h1 (by omega) hb ht, setCell_noncell hb h2 rfl, setCell_noncell hb h3 rfl⟩
  have hY : ∀ pre x W1, J pre W1 → pre.length < N → YieldAt F (n - 1 - 1) P (w.heap.size + 1) (encs x) W1 fun e W' => e = .returned (.bool true) ∧ J (pre ++ [x]) W' ∧ Kp W1 W' := by
    rintro pre x W ⟨hi, hl, hd⟩ hlen
    have hlt := block_lt hl
    have hy := run_yield (P := P) (args := encs x) hl (by rw [hrc]; exact hps x)
    rw [hrc] at hy
    refine ⟨fn, _, assign, body, hy, roundIn_of_wpIn hfn (hassign _ x W _ ⟨_, run_beginRound hl (by rw [hrc]), ?_⟩)⟩
    have eb : ({ rc .ready with state := .busy } : Loop) = rc .busy := by rw [hrc]
    rw [eb]
    have hl2 : (W.putObj (w.heap.size + 1) (.loop (rc .busy))).heap[w.heap.size + 1]? = some (.loop (rc .busy)) := World.putObj_heap_same hlt
    have hd2 : (W.putObj (w.heap.size + 1) (.loop (rc .busy))).heap[w.heap.size]? = some (.deferred (some [])) := (World.putObj_heap_other (by omega)).trans hd
    have hk2 : Kp W (W.putObj (w.heap.size + 1) (.loop (rc .busy))) := hKb _ _ _ _ (by omega) hl rfl
    refine wpIn_mono (hbody _ pre x _ (hI.putObj _ hi (by omega) hl rfl) hlen) ?_
    rintro e a3 W3 ⟨rfl, hkf, hkp, hi3⟩
    have hl3 := hkf.same _ _ (by omega) hl2 rfl
    have hd3 := hkf.same _ _ (Nat.le_refl _) hd2 rfl
    have he := run_endRound (P := P) none hl3
    have er : ({ rc .busy with state := if (none : Option Code).isNone then .ready else .done, pending := none } : Loop) = rc .ready := by rw [hrc]; rfl
    rw [er] at he
    exact ⟨_, _, he, rfl, ⟨hI.putObj _ hi3 (by omega) hl3 rfl, World.putObj_heap_same (block_lt hl3), (World.putObj_heap_other (by omega)).trans hd3⟩, hKt hk2 (hKt hkp (hKb _ _ _ _ (by omega) hl3 rfl))⟩
  refine ⟨w.heap.size + 1, [{ target := .collected w.heap.size, args := #[] }], V, { target := .fn (.func gf) lb, args := #[.func (.yield (w.heap.size + 1)) #[] #[]] }, V, gf,
    #[.func (.yield (w.heap.size + 1)) #[] #[]] ++ lb, V, ?_, ?_, ?_, ?_, fun _ => h1, ?_⟩
  · rw [← hV, hrc]; exact run_enterLoop_outer _ _ _ _ _
  · simp only [resolve, hg]
    simp [go_sem]
  · intro f' hf'
    simp [Target.leads] at hf'
    subst hf'
    exact hFg
  · simp [invoke, go_sem, eg]
  · refine (hit (w.heap.size + 1) J V vB hJa hJs hY ⟨vI, vL, vD⟩).mono ?_
    rintro e W2 ⟨⟨v, rfl⟩, xs, hS, hi, hl, hd⟩
    have hend := run_endLoop (P := P) hl (by rw [hrc]; simp)
    have hp : (rc .ready).pending = none := by rw [hrc]
    rw [hp] at hend
    exact ⟨none, _, hend, hdone _ xs _ (Nat.le_refl _) hS (hI.putObj _ hi (by omega) hl rfl) ((World.putObj_heap_other (by omega)).trans hd)⟩
end Go.Proofs.Ytmiijnemacgbiaa
