/- Chapter 19: Collect. (Printed by lggen.py.) -/
import Derived.Test.YtibbnikfecilhaaLg5
namespace Go.Proofs.Ytibbnikfecilhaa
open Go.RowKit
set_option linter.unusedVariables false
set_option linter.unusedSimpArgs false

/-- What worker i told of the command that is next. -/
def LogS.told (s : LogS) (i : Nat) : OutV × Int := (s.out i s.low).getD (OutV.zero, -1)
def LogS.collect (s : LogS) : Option (List (OutV × Int)) :=
  match s.look s.low with
  | none => none
  | some c => if anyWaits s c.kind = true then none else some ((List.range s.cfg.sh).map s.told)
def outsCells (l : List (OutV × Int)) : List Value := l.flatMap fun x => x.1.cells
theorem outsCells_len (l : List (OutV × Int)) : (outsCells l).length = l.length * 4 := flat_len (fun x : OutV × Int => x.1.cells) 4 (fun _ => rfl) l
/-- The row while it is filled. -/
def toldTo (s : LogS) (I : Nat) : List (OutV × Int) := (List.range s.cfg.sh).map fun i => if i < I then s.told i else (OutV.zero, -1)
theorem toldTo_len (s : LogS) (I : Nat) : (toldTo s I).length = s.cfg.sh := by simp [toldTo]
theorem toldTo_set (s : LogS) (I : Nat) : (toldTo s I).set I (s.told I) = toldTo s (I + 1) := by
  refine List.ext_getElem? fun j => ?_
  by_cases hj : j < s.cfg.sh
  · rw [List.getElem?_set]
    by_cases e : I = j
    · subst e
      rw [if_pos rfl, if_pos (by rw [toldTo_len]; exact hj)]
      simp [toldTo, hj]
    · rw [if_neg e]
      simp only [toldTo, List.getElem?_map, List.getElem?_range hj, Option.map_some]
      congr 1
      by_cases h1 : j < I
      · rw [if_pos h1, if_pos (by omega)]
      · rw [if_neg h1, if_neg (by omega)]
  · rw [List.getElem?_eq_none (by rw [List.length_set, toldTo_len]; omega), List.getElem?_eq_none (by rw [toldTo_len]; omega)]
theorem toldTo_all (s : LogS) : toldTo s s.cfg.sh = (List.range s.cfg.sh).map s.told := by
  refine List.map_congr_left fun i hi => ?_
  rw [if_pos (List.mem_range.1 hi)]
set_option maxRecDepth 20000 in
theorem make_outs (n : Nat) (hn : n ≤ 1000) (W : World) : (Instr.makeSlice 49 (.int .i64 (n : Int)) (.int .i64 (n : Int))).run Try.prog W = .ok (.slice (some ⟨W.heap.size, 0, none⟩) n n) (W.alloc (.cells (outsCells (List.replicate n (OutV.zero, -1))).toArray 47 (0, 0))) := by
  have hi : ∃ i, Try.prog.info? 47 = some i ∧ i.zero = some (.agg #[.slice none 0 0, .slice none 0 0, .slice none 0 0, .slice none 0 0]) ∧ i.size = 4 ∧ i.bytes = 96 := ⟨_, rfl, by kernel_rfl, by kernel_rfl, by kernel_rfl⟩
  obtain ⟨i, hi0, hi1, hi2, hi3⟩ := hi
  have := run_make (P := Try.prog) W 49 47 i _ Try.underlying49 hi0 hi1 .i64 .i64 n n (by omega) (by omega) (by rw [hi3]; omega) (by omega)
  rw [hi2] at this
  have hm := made_flat (fun x : OutV × Int => x.1.cells) 4 (by decide) (fun _ => rfl) (OutV.zero, -1) #[.slice none 0 0, .slice none 0 0, .slice none 0 0, .slice none 0 0] rfl rfl n
  rw [this]
  unfold outsCells
  rw [← hm]
  simp [Value.cells]
theorem box_of {w : World} {b : Nat} {v : Value} {t : TypeId} (h : w.heap[b]? = some (.cells #[v] t (0, 0))) : w.cell? ⟨b, 0, none⟩ = some v := cell_of_blk (cs := [v]) h 0
theorem alloc_at {w : World} {k : Nat} (h : w.heap.size = k) (o : Obj) : (w.alloc o).heap[k]? = some o := by rw [← h]; exact alloc_new w o
theorem claid_keeps {w : World} {b q : Nat} {o : Obj} (h : w.heap[b]? = some o) (hne : b ≠ q) (x : CmdV) : (claid w q 0 x).heap[b]? = some o := by
  rw [claid_eq]
  exact (puts_only (S := fun k => k = q) rfl _ _ _ _ (Only.refl _ w)).block h hne
theorem zero_cells {w : World} {q : Nat} (h : w.heap[q]? = some (.cells #[.int .i64 0, .int .i64 0, .int .i64 0, .int .i64 0, .int .i64 0, .int .i64 0, .int .i64 0, .int .i64 0, .int .i64 0, .int .i64 0, .int .i64 0, .slice none 0 0, .int .i64 0, .bool false] 39 (0, 0))) : w.cell? ⟨q, 0, none⟩ = some (.int .i64 0) ∧ w.frozen? ⟨q, 0, none⟩ = false ∧ w.cell? ⟨q, 1, none⟩ = some (.int .i64 0) ∧ w.frozen? ⟨q, 1, none⟩ = false ∧ w.cell? ⟨q, 2, none⟩ = some (.int .i64 0) ∧ w.frozen? ⟨q, 2, none⟩ = false ∧ w.cell? ⟨q, 3, none⟩ = some (.int .i64 0) ∧ w.frozen? ⟨q, 3, none⟩ = false ∧ w.cell? ⟨q, 4, none⟩ = some (.int .i64 0) ∧ w.frozen? ⟨q, 4, none⟩ = false ∧ w.cell? ⟨q, 5, none⟩ = some (.int .i64 0) ∧ w.frozen? ⟨q, 5, none⟩ = false ∧ w.cell? ⟨q, 6, none⟩ = some (.int .i64 0) ∧ w.frozen? ⟨q, 6, none⟩ = false ∧ w.cell? ⟨q, 7, none⟩ = some (.int .i64 0) ∧ w.frozen? ⟨q, 7, none⟩ = false ∧ w.cell? ⟨q, 8, none⟩ = some (.int .i64 0) ∧ w.frozen? ⟨q, 8, none⟩ = false ∧ w.cell? ⟨q, 9, none⟩ = some (.int .i64 0) ∧ w.frozen? ⟨q, 9, none⟩ = false ∧ w.cell? ⟨q, 10, none⟩ = some (.int .i64 0) ∧ w.frozen? ⟨q, 10, none⟩ = false ∧ w.cell? ⟨q, 11, none⟩ = some (.slice none 0 0) ∧ w.frozen? ⟨q, 11, none⟩ = false ∧ w.cell? ⟨q, 12, none⟩ = some (.int .i64 0) ∧ w.frozen? ⟨q, 12, none⟩ = false ∧ w.cell? ⟨q, 13, none⟩ = some (.bool false) ∧ w.frozen? ⟨q, 13, none⟩ = false :=
  ⟨cell_of_blk (cs := [.int .i64 0, .int .i64 0, .int .i64 0, .int .i64 0, .int .i64 0, .int .i64 0, .int .i64 0, .int .i64 0, .int .i64 0, .int .i64 0, .int .i64 0, .slice none 0 0, .int .i64 0, .bool false]) h 0, free_of_blk (cs := [.int .i64 0, .int .i64 0, .int .i64 0, .int .i64 0, .int .i64 0, .int .i64 0, .int .i64 0, .int .i64 0, .int .i64 0, .int .i64 0, .int .i64 0, .slice none 0 0, .int .i64 0, .bool false]) h 0, cell_of_blk (cs := [.int .i64 0, .int .i64 0, .int .i64 0, .int .i64 0, .int .i64 0, .int .i64 0, .int .i64 0, .int .i64 0, .int .i64 0, .int .i64 0, .int .i64 0, .slice none 0 0, .int .i64 0, .bool false]) h 1, free_of_blk (cs := [.int .i64 0, .int .i64 0, .int .i64 0, .int .i64 0, .int .i64 0, .int .i64 0, .int .i64 0, .int .i64 0, .int .i64 0, .int .i64 0, .int .i64 0, .slice none 0 0, .int .i64 0, .bool false]) h 1, cell_of_blk (cs := [.int .i64 0, .int .i64 0, .int .i64 0, .int .i64 0, .int .i64 0, .int .i64 0, .int .i64 0, .int .i64 0, .int .i64 0, .int .i64 0, .int .i64 0, .slice none 0 0, .int .i64 0, .bool false]) h 2, free_of_blk (cs := [.int .i64 0, .int .i64 0, .int .i64 0, .int .i64 0, .int .i64 0, .int .i64 0, .int .i64 0, .int .i64 0, .int .i64 0, .int .i64 0, .int .i64 0, .slice none 0 0, .int .i64 0, .bool false]) h 2, cell_of_blk (cs := [.int .i64 0, .int .i64 0, .int .i64 0, .int .i64 0, .int .i64 0, .int .i64 0, .int .i64 0, .int .i64 0, .int .i64 0, .int .i64 0, .int .i64 0, .slice none 0 0, .int .i64 0, .bool false]) h 3, free_of_blk (cs := [.int .i64 0, .int .i64 0, .int .i64 0, .int .i64 0, .int .i64 0, .int .i64 0, .int .i64 0, .int .i64 0, .int .i64 0, .int .i64 0, .int .i64 0, .slice none 0 0, .int .i64 0, .bool false]) h 3, cell_of_blk (cs := [.int .i64 0, .int .i64 0, .int .i64 0, .int .i64 0, .int .i64 0, .int .i64 0, .int .i64 0, .int .i64 0, .int .i64 0, .int .i64 0, .int .i64 0, .slice none 0 0, .int .i64 0, .bool false]) h 4, free_of_blk (cs := [.int .i64 0, .int .i64 0, .int .i64 0, .int .i64 0, .int .i64 0, .int .i64 0, .int .i64 0, .int .i64 0, .int .i64 0, .int .i64 0, .int .i64 0, .slice none 0 0, .int .i64 0, .bool false]) h 4, cell_of_blk (cs := [.int .i64 0, .int .i64 0, .int .i64 0, .int .i64 0, .int .i64 0, .int .i64 0, .int .i64 0, .int .i64 0, .int .i64 0, .int .i64 0, .int .i64 0, .slice none 0 0, .int .i64 0, .bool false]) h 5, free_of_blk (cs := [.int .i64 0, .int .i64 0, .int .i64 0, .int .i64 0, .int .i64 0, .int .i64 0, .int .i64 0, .int .i64 0, .int .i64 0, .int .i64 0, .int .i64 0, .slice none 0 0, .int .i64 0, .bool false]) h 5, cell_of_blk (cs := [.int .i64 0, .int .i64 0, .int .i64 0, .int .i64 0, .int .i64 0, .int .i64 0, .int .i64 0, .int .i64 0, .int .i64 0, .int .i64 0, .int .i64 0, .slice none 0 0, .int .i64 0, .bool false]) h 6, free_of_blk (cs := [.int .i64 0, .int .i64 0, .int .i64 0, .int .i64 0, .int .i64 0, .int .i64 0, .int .i64 0, .int .i64 0, .int .i64 0, .int .i64 0, .int .i64 0, .slice none 0 0, .int .i64 0, .bool false]) h 6, cell_of_blk (cs := [.int .i64 0, .int .i64 0, .int .i64 0, .int .i64 0, .int .i64 0, .int .i64 0, .int .i64 0, .int .i64 0, .int .i64 0, .int .i64 0, .int .i64 0, .slice none 0 0, .int .i64 0, .bool false]) h 7, free_of_blk (cs := [.int .i64 0, .int .i64 0, .int .i64 0, .int .i64 0, .int .i64 0, .int .i64 0, .int .i64 0, .int .i64 0, .int .i64 0, .int .i64 0, .int .i64 0, .slice none 0 0, .int .i64 0, .bool false]) h 7, cell_of_blk (cs := [.int .i64 0, .int .i64 0, .int .i64 0, .int .i64 0, .int .i64 0, .int .i64 0, .int .i64 0, .int .i64 0, .int .i64 0, .int .i64 0, .int .i64 0, .slice none 0 0, .int .i64 0, .bool false]) h 8, free_of_blk (cs := [.int .i64 0, .int .i64 0, .int .i64 0, .int .i64 0, .int .i64 0, .int .i64 0, .int .i64 0, .int .i64 0, .int .i64 0, .int .i64 0, .int .i64 0, .slice none 0 0, .int .i64 0, .bool false]) h 8, cell_of_blk (cs := [.int .i64 0, .int .i64 0, .int .i64 0, .int .i64 0, .int .i64 0, .int .i64 0, .int .i64 0, .int .i64 0, .int .i64 0, .int .i64 0, .int .i64 0, .slice none 0 0, .int .i64 0, .bool false]) h 9, free_of_blk (cs := [.int .i64 0, .int .i64 0, .int .i64 0, .int .i64 0, .int .i64 0, .int .i64 0, .int .i64 0, .int .i64 0, .int .i64 0, .int .i64 0, .int .i64 0, .slice none 0 0, .int .i64 0, .bool false]) h 9, cell_of_blk (cs := [.int .i64 0, .int .i64 0, .int .i64 0, .int .i64 0, .int .i64 0, .int .i64 0, .int .i64 0, .int .i64 0, .int .i64 0, .int .i64 0, .int .i64 0, .slice none 0 0, .int .i64 0, .bool false]) h 10, free_of_blk (cs := [.int .i64 0, .int .i64 0, .int .i64 0, .int .i64 0, .int .i64 0, .int .i64 0, .int .i64 0, .int .i64 0, .int .i64 0, .int .i64 0, .int .i64 0, .slice none 0 0, .int .i64 0, .bool false]) h 10, cell_of_blk (cs := [.int .i64 0, .int .i64 0, .int .i64 0, .int .i64 0, .int .i64 0, .int .i64 0, .int .i64 0, .int .i64 0, .int .i64 0, .int .i64 0, .int .i64 0, .slice none 0 0, .int .i64 0, .bool false]) h 11, free_of_blk (cs := [.int .i64 0, .int .i64 0, .int .i64 0, .int .i64 0, .int .i64 0, .int .i64 0, .int .i64 0, .int .i64 0, .int .i64 0, .int .i64 0, .int .i64 0, .slice none 0 0, .int .i64 0, .bool false]) h 11, cell_of_blk (cs := [.int .i64 0, .int .i64 0, .int .i64 0, .int .i64 0, .int .i64 0, .int .i64 0, .int .i64 0, .int .i64 0, .int .i64 0, .int .i64 0, .int .i64 0, .slice none 0 0, .int .i64 0, .bool false]) h 12, free_of_blk (cs := [.int .i64 0, .int .i64 0, .int .i64 0, .int .i64 0, .int .i64 0, .int .i64 0, .int .i64 0, .int .i64 0, .int .i64 0, .int .i64 0, .int .i64 0, .slice none 0 0, .int .i64 0, .bool false]) h 12, cell_of_blk (cs := [.int .i64 0, .int .i64 0, .int .i64 0, .int .i64 0, .int .i64 0, .int .i64 0, .int .i64 0, .int .i64 0, .int .i64 0, .int .i64 0, .int .i64 0, .slice none 0 0, .int .i64 0, .bool false]) h 13, free_of_blk (cs := [.int .i64 0, .int .i64 0, .int .i64 0, .int .i64 0, .int .i64 0, .int .i64 0, .int .i64 0, .int .i64 0, .int .i64 0, .int .i64 0, .int .i64 0, .slice none 0 0, .int .i64 0, .bool false]) h 13⟩
/-- What is handed back, and what lies there. -/
def Collected (w : World) (o : Option (List (OutV × Int))) (e : Ending) (w' : World) : Prop :=
  match o with
  | none => e = .returned (.tuple #[.slice none 0 0, .bool false]) ∧ Below w.heap.size w w'
  | some l => ∃ X, e = .returned (.tuple #[.slice (some ⟨X, 0, none⟩) l.length l.length, .bool true]) ∧ w.heap.size ≤ X ∧ w'.heap[X]? = some (.cells (outsCells l).toArray 47 (0, 0)) ∧ Below w.heap.size w w'
set_option maxHeartbeats 4000000 in
theorem logCollect {w : World} {lo L : Nat} {b : LogB} {s : LogS} (h : LogAt w lo L b s) (o : Option (List (OutV × Int))) (ho : s.collect = o) :
    Calls Try.prog 17 #[.pointer (some ⟨L, 0, none⟩)] w (Collected w o) := by
  have hsh := h.inv.sh2
  have hlow := h.lowInt
  have hlt := h.inv.low
  obtain ⟨lk, hlk⟩ : ∃ lk, entry CmdV.zero (s.look s.low) = lk := ⟨_, rfl⟩
  have hb1 := bl_alloc (Below.refl _ w) (.cells #[.pointer (some ⟨L, 0, none⟩)] 24)
  have hz := alloc_new w (.cells #[.pointer (some ⟨L, 0, none⟩)] 24)
  have HLOW := Lib.hid fun W (hW : Below w.heap.size w W) => logLow (h.below hW)
  have HLOOK := Lib.hid fun W (hW : Below w.heap.size w W) => logLook (h.below hW) s.low (by omega) lk hlk
  have HH := Lib.hid h
  have HB1 := Lib.hid hb1
  have HZ := Lib.hid hz
  have c0 : (w.alloc (.cells #[.pointer (some ⟨L, 0, none⟩)] 24)).cell? ⟨w.heap.size, 0, none⟩ = some (.pointer (some ⟨L, 0, none⟩)) := cell_of_blk (cs := [_]) hz 0
  have hk : (s.look s.low).isSome = lk.2 := by rw [← hlk]; cases s.look s.low <;> rfl
  have hk1 : ∀ c, s.look s.low = some c → lk.1 = c := fun c hc => by rw [← hlk, hc]; rfl
  obtain ⟨⟨kd, nn⟩, lies⟩ := lk
  have HLOOK2 : Hid (∀ W, Below w.heap.size w W → Calls Try.prog 26 #[.pointer (some ⟨L, 0, none⟩), .int .i64 s.low] W fun e w' => e = .returned (.tuple #[.agg #[.int .i64 kd, .int .i64 0, .int .i64 nn, .int .i64 0, .int .i64 0, .int .i64 0, .int .i64 0, .int .i64 0, .int .i64 0, .int .i64 0, .int .i64 0, .slice none 0 0, .int .i64 0, .bool false], .bool lies]) ∧ Below W.heap.size W w') := Lib.hid fun W hW => HLOOK.out W hW
  clear HLOOK
  have HK := Lib.hid hk
  have HK1 := Lib.hid hk1
  clear h hb1 hz hlk hk hk1
  go_enter Try.func17, Try.ntmps17
  go_wp2_with fail
  have neQ : w.heap.size ≠ w.heap.size + 1 := by omega
  go_cut [4, 5] (fun q l wx => ∃ Q, q = .pointer (some ⟨Q, 0, none⟩) ∧ l = .bool lies ∧ wx.heap[Q]? = some (.cells #[.int .i64 kd, .int .i64 0, .int .i64 nn, .int .i64 0, .int .i64 0, .int .i64 0, .int .i64 0, .int .i64 0, .int .i64 0, .int .i64 0, .int .i64 0, .slice none 0 0, .int .i64 0, .bool false] 39 (0, 0)) ∧ wx.heap[w.heap.size]? = some (.cells #[.pointer (some ⟨L, 0, none⟩)] 24 (0, 0)) ∧ Below w.heap.size w wx)
  case first =>
    go_region_held3 (fun w' => w'.cell? ⟨w.heap.size, 0, none⟩ = some (.pointer (some ⟨L, 0, none⟩))) (first | with_reducible exact box_of hz2 | with_reducible exact box_of (alloc_old hz2 _) | with_reducible exact box_of (setCell_other (setCell_other (setCell_other (setCell_other (setCell_other (setCell_other (setCell_other (setCell_other (setCell_other (setCell_other (setCell_other (setCell_other (setCell_other (setCell_other hz2 neQ _) neQ _) neQ _) neQ _) neQ _) neQ _) neQ _) neQ _) neQ _) neQ _) neQ _) neQ _) neQ _) neQ _) | exact c0 | exact box_of (alloc_old HZ.out _)) (first
      | (go_at_call 21; refine (HLOW.out _ (by first | exact bl_drew HB1.out | exact bl_alloc (bl_drew HB1.out) _ | exact bl_drew (bl_alloc HB1.out _))).mono ?_; rintro e w' ⟨rfl, rfl⟩)
      | (go_at_call 26; refine (HLOOK2.out _ (by first | exact bl_drew HB1.out | exact bl_alloc (bl_drew HB1.out) _ | exact bl_drew (bl_alloc HB1.out _))).mono ?_; rintro e w2 ⟨rfl, hb2⟩; have hz2 := (hb2.block w.heap.size (by first | (simp; done) | (simp; omega))).trans (by first | exact HZ.out | exact alloc_old HZ.out _); have hb02 := bl_then (by first | exact bl_drew HB1.out | exact bl_alloc (bl_drew HB1.out) _ | exact bl_drew (bl_alloc HB1.out _)) hb2; (first | (have hq2 := (hb2.block (w.heap.size + 1) (by first | (simp; done) | (simp; omega))).trans (show (World.heap _)[w.heap.size + 1]? = some (.cells #[.int .i64 0, .int .i64 0, .int .i64 0, .int .i64 0, .int .i64 0, .int .i64 0, .int .i64 0, .int .i64 0, .int .i64 0, .int .i64 0, .int .i64 0, .slice none 0 0, .int .i64 0, .bool false] 39 (0, 0)) from by first | exact alloc_at (by simp) _ | exact alloc_at (by simp [World.drew]) _); obtain ⟨z0, y0, z1, y1, z2, y2, z3, y3, z4, y4, z5, y5, z6, y6, z7, y7, z8, y8, z9, y9, z10, y10, z11, y11, z12, y12, z13, y13⟩ := zero_cells hq2) | skip)))
    all_goals
      go_wp2_with fail
      go_meet
      case rel =>
        first
          | with_reducible exact ⟨_, rfl, rfl, alloc_new w2 _, alloc_old hz2 _, bl_alloc hb02 _⟩
          | exact ⟨w.heap.size + 1, rfl, rfl, claid_same (cs := [.int .i64 0, .int .i64 0, .int .i64 0, .int .i64 0, .int .i64 0, .int .i64 0, .int .i64 0, .int .i64 0, .int .i64 0, .int .i64 0, .int .i64 0, .slice none 0 0, .int .i64 0, .bool false]) (w := w2) hq2 rfl ⟨kd, nn⟩, (setCell_other (setCell_other (setCell_other (setCell_other (setCell_other (setCell_other (setCell_other (setCell_other (setCell_other (setCell_other (setCell_other (setCell_other (setCell_other (setCell_other hz2 neQ _) neQ _) neQ _) neQ _) neQ _) neQ _) neQ _) neQ _) neQ _) neQ _) neQ _) neQ _) neQ _) neQ _), (claid_new (S := fun _ => False) (w := w2) (b := w.heap.size + 1) (Nat.le_succ _) (Only.of_below hb02) 0 ⟨kd, nn⟩).below (Nat.le_refl _) (fun _ h => h.elim)⟩
  case rest =>
    obtain ⟨Q, rfl, hl0, hQ, hP, hb⟩ := hcut
    subst hl0
    have hl := HH.out.below hb
    have cP := box_of hP
    have cQ : wc.cell? ⟨Q, 0, none⟩ = some (.int .i64 kd) := cell_of_blk (cs := [.int .i64 kd, .int .i64 0, .int .i64 nn, .int .i64 0, .int .i64 0, .int .i64 0, .int .i64 0, .int .i64 0, .int .i64 0, .int .i64 0, .int .i64 0, .slice none 0 0, .int .i64 0, .bool false]) hQ 0
    have c12 : wc.cell? ⟨L, 12, none⟩ = some (.slice (some ⟨b.C, 0, none⟩) s.cfg.sh s.cfg.sh) := lgCell hl 12
    obtain ⟨P, hPw⟩ : ∃ P, w.heap.size = P := ⟨_, rfl⟩
    simp only [hPw] at hP cP ⊢
    cases lies
    · have ho2 : o = none := by
        rw [← ho]
        unfold LogS.collect
        have := HK.out
        cases hlk : s.look s.low with
        | none => rfl
        | some c => rw [hlk] at this; cases this
      subst ho2
      have HB := Lib.hid hb
      clear hb hl hQ hP ho
      go_wp2_with fail
      go_ret2
      exact ⟨rfl, HB.out⟩
    · have hlk : s.look s.low = some ⟨kd, nn⟩ := by
        have := HK.out
        cases hlk : s.look s.low with
        | none => rw [hlk] at this; cases this
        | some c => rw [HK1.out c hlk]
      cases hw : anyWaits s kd
      · have ho2 : o = some ((List.range s.cfg.sh).map s.told) := by
          rw [← ho]
          unfold LogS.collect
          rw [hlk]
          simp only [hw]
          rfl
        have HC := Lib.hid (contains_any hl cP kd cQ false hw)
        have HL := Lib.hid hl
        have HB := Lib.hid hb
        have HO := Lib.hid ho2
        have c13 : wc.cell? ⟨L, 13, none⟩ = some (.slice (some ⟨b.O, 0, none⟩) s.cfg.sh b.oc) := lgCell hl 13
        have hmk := make_outs s.cfg.sh (by omega)
        have hPX := block_lt hP
        obtain ⟨X, hX⟩ : ∃ X, wc.heap.size = X := ⟨_, rfl⟩
        obtain ⟨w4, hw4⟩ : ∃ w4, w4 = wc.alloc (.cells (outsCells (List.replicate s.cfg.sh (OutV.zero, -1))).toArray 47) := ⟨_, rfl⟩
        have hb4 : Below w.heap.size w w4 := by rw [hw4]; exact bl_alloc hb _
        have hX4 : w4.heap[X]? = some (.cells (outsCells (toldTo s 0)).toArray 47 (0, 0)) := by
          rw [hw4, ← hX]
          have : toldTo s 0 = List.replicate s.cfg.sh (OutV.zero, -1) := by
            unfold toldTo
            refine List.ext_getElem? fun j => ?_
            by_cases hj : j < s.cfg.sh
            · simp [hj]
            · rw [List.getElem?_eq_none (by simp; omega), List.getElem?_eq_none (by simp; omega)]
          rw [this]
          exact alloc_new _ _
        have hP4 : w4.heap[P]? = some (.cells #[.pointer (some ⟨L, 0, none⟩)] 24 (0, 0)) := by rw [hw4]; exact alloc_old hP _
        have hl4 : LogAt w4 lo L b s := HH.out.below hb4
        have step : ∀ W, Only (fun k => k = X) w4 W → LogAt W lo L b s ∧ W.cell? ⟨P, 0, none⟩ = some (.pointer (some ⟨L, 0, none⟩)) ∧ W.cell? ⟨L, 13, none⟩ = some (.slice (some ⟨b.O, 0, none⟩) s.cfg.sh b.oc) ∧ ∀ i, i < s.cfg.sh → W.cell? ⟨b.O, i, none⟩ = some (.pointer (some ⟨b.rw i, 0, none⟩)) := fun W hW => by
          have hh : LogAt W lo L b s := hl4.keptT fun k o hk hT => hW.block hk (by
            rintro rfl
            rw [hX4] at hk
            injection hk with hk
            subst hk
            simp [logT] at hT)
          refine ⟨hh, box_of (hW.block hP4 (by omega)), lgCell hh 13, fun i hi => ?_⟩
          obtain ⟨g', e, _, _, _, hc⟩ := own_some hh.outs (by omega)
          injection e with e
          injection e with e _ _
          subst e
          exact hc i _ (by simp [ptrCells, hi])
        have hget : ∀ i, i < s.cfg.sh → oget (ringOf OutV.zero s.low s.cfg.inb (s.outv i)) s.low s.low = entry OutV.zero (s.outv i s.low) := fun i hi => by
          rw [oget_of, if_pos ⟨Int.le_refl _, by have := HH.out.inv.inb1; omega⟩, Int.toNat_natCast]
        have htold : ∀ i, (entry OutV.zero (s.outv i s.low)).1 = (s.told i).1 := fun i => by
          unfold LogS.outv LogS.told
          cases s.out i s.low <;> rfl
        have STEP := Lib.hid step
        have HGET := Lib.hid hget
        have HTOLD := Lib.hid htold
        have HX4 := Lib.hid hX4
        have HB4 := Lib.hid hb4
        have hXw : w.heap.size ≤ X := by rw [← hX]; exact HB.out.size
        obtain ⟨_, cP4, c134, _⟩ := step w4 (Only.refl _ _)
        have hmkc := make_outs s.cfg.sh (by omega) wc
        rw [hX, ← hw4] at hmkc
        clear hb hl hQ ho ho2 hw hlk hP4 hl4 hX4 hb4 step hget htold hP hmk hw4 hX
        go_wp2_with fail
        refine HC.out.mono ?_
        rintro e w' ⟨rfl, rfl⟩
        go_wp2_with fail
        go_loopw [39] (fun i wr => ∃ I : Nat, I ≤ s.cfg.sh ∧ i = .int .i64 I ∧ wr.heap[X]? = some (.cells (outsCells (toldTo s I)).toArray 47 (0, 0)) ∧ Only (fun k => k = X) w4 wr) (fun i _ => s.cfg.sh - (intOf i).toNat)
        case atStart => exact ⟨0, Nat.zero_le _, rfl, HX4.out, Only.refl _ _⟩
        case round =>
          obtain ⟨I, hI, rfl, hXr, honly⟩ := hrel
          by_cases hlt : I < s.cfg.sh
          · have iI : (I : Int) < s.cfg.sh := by omega
            obtain ⟨hlr, cPr, _, cOr⟩ := STEP.out _ honly
            have cOI := cOr I hlt
            obtain ⟨x, hx⟩ : ∃ x, entry OutV.zero (s.outv I s.low) = x := ⟨_, rfl⟩
            have htx := HTOLD.out I
            have HG := Lib.hid (oget_at (hlr.orng I hlt) s.low (by omega) x (by rw [HGET.out I hlt, hx]))
            have HLR := Lib.hid (logLow hlr)
            rw [hx] at htx
            obtain ⟨⟨la, ln, lc⟩, th⟩ := x
            have HTX := Lib.hid htx
            have HXR := Lib.hid hXr
            have HON := Lib.hid honly
            clear hlr cOr hx htx hXr honly
            go_wp2_with fail
            refine HLR.out.mono ?_
            rintro e w' ⟨rfl, rfl⟩
            go_wp2_with fail
            refine HG.out.mono ?_
            rintro e w5 ⟨rfl, hb5⟩
            have hX5 := (hb5.block X (block_lt HXR.out)).trans HXR.out
            have hlen : (outsCells (toldTo s I)).length = s.cfg.sh * 4 := by rw [outsCells_len, toldTo_len]
            obtain ⟨u0, z0⟩ : ∃ u, w5.cell? ⟨X, I * 4 + 0, none⟩ = some u := ⟨_, (cell_of_blk hX5 (I * 4 + 0)).trans (List.getElem?_eq_getElem (by omega))⟩
            obtain ⟨u1, z1⟩ : ∃ u, w5.cell? ⟨X, I * 4 + 1, none⟩ = some u := ⟨_, (cell_of_blk hX5 (I * 4 + 1)).trans (List.getElem?_eq_getElem (by omega))⟩
            obtain ⟨u2, z2⟩ : ∃ u, w5.cell? ⟨X, I * 4 + 2, none⟩ = some u := ⟨_, (cell_of_blk hX5 (I * 4 + 2)).trans (List.getElem?_eq_getElem (by omega))⟩
            obtain ⟨u3, z3⟩ : ∃ u, w5.cell? ⟨X, I * 4 + 3, none⟩ = some u := ⟨_, (cell_of_blk hX5 (I * 4 + 3)).trans (List.getElem?_eq_getElem (by omega))⟩
            have y0 : w5.frozen? ⟨X, I * 4 + 0, none⟩ = false := free_of_blk hX5 (I * 4 + 0)
            have y1 : w5.frozen? ⟨X, I * 4 + 1, none⟩ = false := free_of_blk hX5 (I * 4 + 1)
            have y2 : w5.frozen? ⟨X, I * 4 + 2, none⟩ = false := free_of_blk hX5 (I * 4 + 2)
            have y3 : w5.frozen? ⟨X, I * 4 + 3, none⟩ = false := free_of_blk hX5 (I * 4 + 3)
            simp only [Nat.add_zero] at z0 y0
            have hfin : (olaid w5 X (I * 4) ⟨la, ln, lc⟩).heap[X]? = some (.cells (outsCells (toldTo s (I + 1))).toArray 47 (0, 0)) ∧ Only (fun k => k = X) w4 (olaid w5 X (I * 4) ⟨la, ln, lc⟩) := by
              refine ⟨?_, ?_⟩
              · have := puts_same (OutV.cells ⟨la, ln, lc⟩) w5 _ (I * 4) hX5
                rw [← olaid_eq] at this
                rw [this, ← toldTo_set]
                have hp := putL_flat (fun x : OutV × Int => x.1.cells) 4 (by decide) (fun _ => rfl) (OutV.zero, -1) (toldTo s I) I (by rw [toldTo_len]; exact hlt) (s.told I)
                rw [← HTX.out] at hp
                unfold outsCells
                rw [hp]
              · rw [olaid_eq]
                exact puts_only (S := fun k => k = X) rfl _ _ _ _ (HON.out.trans (Only.of_below hb5))
            have HFIN := Lib.hid hfin
            clear hX5 hlen hfin hb5
            simp only [OutV.cells]
            go_wp2_with fail
            go_roundw
            case rel => exact ⟨I + 1, hlt, by simp, HFIN.out⟩
            case measure => simp [intOf]; omega
          · obtain rfl : I = s.cfg.sh := by omega
            have iI : ¬ (s.cfg.sh : Int) < s.cfg.sh := by omega
            rw [toldTo_all] at hXr
            have hfin : Collected w o (.returned (.tuple #[.slice (some ⟨X, 0, none⟩) s.cfg.sh s.cfg.sh, .bool true])) wr := by
              rw [HO.out]
              refine ⟨X, by simp, hXw, hXr, bl_only HB4.out honly (by rintro k rfl; exact hXw)⟩
            have HF := Lib.hid hfin
            clear hXr honly hfin
            go_wp2_with fail
            go_ret2
            exact HF.out
      · have ho2 : o = none := by
          rw [← ho]
          unfold LogS.collect
          rw [hlk]
          simp only [hw]
          rfl
        subst ho2
        have HC := Lib.hid (contains_any hl cP kd cQ true hw)
        have HB := Lib.hid hb
        clear hb hl hQ hP ho hw hlk
        go_wp2_with fail
        refine HC.out.mono ?_
        rintro e w' ⟨rfl, rfl⟩
        go_wp2_with fail
        go_ret2
        exact ⟨rfl, HB.out⟩
end Go.Proofs.Ytibbnikfecilhaa
