/- Chapter 5: codes and sets of plain numbers, as the laws make them. -/
import Derived.Test.YtjapgmaldfckkaaEvalW
namespace Go.Proofs.Ytjapgmaldfckkaa
open Go.RowKit
set_option linter.unusedVariables false
set_option linter.unusedSimpArgs false

theorem RowAt.later {α : Type} {d : Kind α} {bytes : Nat} {w : World} {a : Option Addr} {n : Nat} {xs : List α} (h : RowAt d bytes w a n xs) {i : Nat} (hi : i < n) :
    ∃ b off x cs, a = some ⟨b, off, none⟩ ∧ xs[i]? = some x ∧ cs.length = d.sz ∧ d.R w cs x ∧ ∀ W, Below w.heap.size w W → ∀ j, j < d.sz → W.cell? ⟨b, off + i * d.sz + j, none⟩ = cs[j]? := by
  obtain ⟨b, off, rfl, hb, hc⟩ := h.cells (by omega)
  have hx := List.getElem?_eq_getElem (show i < xs.length by rw [h.len]; exact hi)
  obtain ⟨cs, h1, h2, h3⟩ := hc i _ hx
  exact ⟨b, off, _, cs, rfl, hx, h1, h3, fun W hW j hj => (hW.cell (p := ⟨b, off + i * d.sz + j, none⟩) hb).trans (h2 j hj)⟩

/-- A law's step (Op, At, Field, N) as a code. -/
abbrev StepV := Int × Int × Int × Int
def kStep : Kind StepV := kPair (kInt .i64) (kPair (kInt .i64) (kPair (kInt .i64) (kInt .i64)))
def codeOf (s : StepV) : CodeV := ⟨s.1 % 11, s.2.2.2, ⟨#[]⟩, s.2.2.1 % 5, s.2.1 % 6 - 1⟩
def codesOf (l : List StepV) : List CodeV := (l.take 12).map codeOf
def codeCells (cs : List CodeV) : List Value := cs.flatMap CodeV.cells
theorem codeCells_length (cs : List CodeV) : (codeCells cs).length = cs.length * 5 := by
  induction cs with
  | nil => rfl
  | cons c cs ih => simp only [codeCells, List.flatMap_cons, List.length_append, CodeV.cells, List.length_cons, List.length_nil] at *; omega
theorem codeCells_at (cs : List CodeV) : ∀ i, i < cs.length → ∀ j, j < 5 → (codeCells cs)[i * 5 + j]? = (cs.getD i CodeV.zero).cells[j]? := by
  induction cs with
  | nil => intro i hi; simp at hi
  | cons c cs ih =>
    intro i hi j hj
    have hl : c.cells.length = 5 := rfl
    cases i with
    | zero =>
      simp only [codeCells, List.flatMap_cons, Nat.zero_mul, Nat.zero_add, List.getD_cons_zero]
      rw [List.getElem?_append_left (by omega)]
    | succ i =>
      have := ih i (by simpa using hi) j hj
      simp only [codeCells, List.flatMap_cons, List.getD_cons_succ] at this ⊢
      rw [List.getElem?_append_right (by omega), hl, show (i + 1) * 5 + j - 5 = i * 5 + j by omega]
      exact this
theorem CodesAt.of_own {w : World} {lo : Nat} {A : Option Addr} {n c : Nat} {cs : List CodeV} (h : w.ownsRow lo 37 5 (.slice A n c) n (codeCells cs)) : CodesAt w A n cs := by
  have hl : cs.length = n := by have := h.1; rw [codeCells_length] at this; omega
  refine ⟨hl, fun hp => ?_⟩
  obtain ⟨g, rfl, _, _, hg, hc⟩ := own_some h hp
  refine ⟨g, 0, rfl, hg, fun i hi j hj => ?_⟩
  have h1 := codeCells_at cs i (by omega) j hj
  have h2 : j < (cs.getD i CodeV.zero).cells.length := hj
  rw [List.getElem?_eq_getElem h2] at h1
  rw [List.getElem?_eq_getElem h2, Nat.zero_add]
  exact hc _ _ h1
theorem infoCode : (Try.prog.info? 37).map (fun i => (i.zero, i.size, i.bytes)) = some (some (.agg #[.int .i64 0, .int .i64 0, .string ByteArray.empty, .int .i64 0, .int .i64 0]), 5, 48) := by kernel_rfl
theorem rest_eq (x n : Int) : (x.tmod n + n) % n = x % n := by
  rw [Int.add_emod_right, Int.tmod_def, Int.sub_mul_emod_self_left]

theorem rest_eq2 (x n : Int) : x.tmod n % n = x % n := by
  rw [Int.tmod_def, Int.sub_mul_emod_self_left]
theorem Only.below' {w wr w4 : World} (h : Only (fun b => w.heap.size ≤ b) wr w4) (hb : Below w.heap.size w wr) : Below w.heap.size w w4 := bl_only hb h (fun _ h => h)
theorem cells_new_at (w : World) (n : Nat) (hn : w.heap.size = n) (l : List Value) (e : TypeId) : ∀ (j : Nat) (u : Value), l[j]? = some u → (w.alloc (.cells l.toArray e)).cell? ((⟨n, 0, none⟩ : Addr).add j) = some u := by
  subst hn
  intro j u hj
  have h := alloc_new w (.cells l.toArray e)
  have := cell_of_blk h j
  rw [← hj, ← this]
  simp [Addr.add_lit]

set_option maxHeartbeats 2000000 in
set_option maxRecDepth 100000 in
theorem codes_any {w : World} {a : Option Addr} {n cap : Nat} {l : List StepV} (h : RowAt kStep 32 w a n l) :
    Calls Try.prog 11 #[.slice a n cap] w fun e w' => ∃ A c, e = .returned (.slice A (codesOf l).length c) ∧ w'.ownsRow w.heap.size 37 5 (.slice A (codesOf l).length c) (codesOf l).length (codeCells (codesOf l)) ∧ Below w.heap.size w w' := by
  have hl := h.len
  have H := Lib.hid h
  have hsm := h.small
  obtain ⟨i0, hi, hz0, hz1, hz2⟩ := info_parts infoCode
  clear h
  have HLN := Lib.hid hl
  clear hl
  go_enter Try.func11, Try.ntmps11
  go_wp2
  go_loopw [3, 4] (fun out i wr => ∃ I : Nat, I ≤ n ∧ I ≤ 12 ∧ i = .int .i64 I ∧ Below w.heap.size w wr ∧ wr.ownsRow w.heap.size 37 5 out I (codeCells ((l.take I).map codeOf))) (fun _ i _ => n - (intOf i).toNat)
  case atStart => exact ⟨0, Nat.zero_le _, by omega, rfl, Below.refl _ _, rfl, .inl ⟨rfl, rfl⟩⟩
  case round =>
    obtain ⟨I, hI, hI2, rfl, hb, hown⟩ := hrel
    obtain ⟨A0, c0, rfl⟩ := own_form hown
    by_cases h1 : I < n ∧ I < 12
    · obtain ⟨h1, h2⟩ := h1
      obtain ⟨b, off, ⟨op, at_, fd, nn⟩, cs, rfl, hx, hcl, hR, hcc⟩ := H.out.later h1
      match cs, hcl with
      | [v0, v1, v2, v3], _ =>
        simp only [kStep, kPair, kInt] at hR
        simp at hR
        obtain ⟨⟨rfl, g0⟩, ⟨rfl, g1⟩, ⟨rfl, g2⟩, rfl, g3⟩ := hR
        have hcc := hcc _ hb
        have x0 : wr.cell? ⟨b, off + I * 4, none⟩ = some (.int .i64 op) := hcc 0 (by decide)
        have x1 : wr.cell? ⟨b, off + I * 4 + 1, none⟩ = some (.int .i64 at_) := hcc 1 (by decide)
        have x2 : wr.cell? ⟨b, off + I * 4 + 2, none⟩ = some (.int .i64 fd) := hcc 2 (by decide)
        have x3 : wr.cell? ⟨b, off + I * 4 + 3, none⟩ = some (.int .i64 nn) := hcc 3 (by decide)
        clear hcc
        have t1 := Int.tmod_lt_of_pos op (show (0:Int) < 11 by decide)
        have t2 := Int.lt_tmod_of_pos op (show (0:Int) < 11 by decide)
        have t3 := Int.tmod_lt_of_pos at_ (show (0:Int) < 6 by decide)
        have t4 := Int.lt_tmod_of_pos at_ (show (0:Int) < 6 by decide)
        have t5 := Int.tmod_lt_of_pos fd (show (0:Int) < 5 by decide)
        have t6 := Int.lt_tmod_of_pos fd (show (0:Int) < 5 by decide)
        have HX := Lib.hid hx
        clear hx
        have hone : ∀ u ∈ [Value.int .i64 (op.tmod 11 % 11), .int .i64 nn, .string ⟨#[]⟩, .int .i64 (fd.tmod 5 % 5), .int .i64 (at_.tmod 6 % 6 - 1)], u.oneCell' = true := by simp [Value.oneCell']
        have hbase : w.heap.size ≤ ((wr.alloc (.cells #[.int .i64 op, .int .i64 at_, .int .i64 fd, .int .i64 nn] 66)).alloc (.cells #[.int .i64 (op.tmod 11 % 11), .int .i64 nn, .string ⟨#[]⟩, .int .i64 (fd.tmod 5 % 5), .int .i64 (at_.tmod 6 % 6 - 1)] 37)).heap.size := by have := hb.size; simp; omega
        go_wp2_with (at_builtin; refine wpList_append_own _ rfl (.tmp 20) (.tmp 40) 33 rfl w.heap.size 37 i0 _ 5 48 Try.underlying33 hi hz0 hz1 hz2 rfl (by decide) (.slice A0 I c0) I _ rfl ((hown.alloc _).alloc _) ⟨wr.heap.size + 1, 0, none⟩ 1 1 [.int .i64 (op.tmod 11 % 11), .int .i64 nn, .string ⟨#[]⟩, .int .i64 (fd.tmod 5 % 5), .int .i64 (at_.tmod 6 % 6 - 1)] rfl rfl (cells_new_at _ _ (by simp) _ _) hone (by simp only [maxLen]; omega) (by omega) hbase ?_; intro v w4 hown4 hgr4 _)
        go_roundw
        case rel =>
          refine ⟨I + 1, by omega, by omega, by simp, ?_, ?_⟩
          · exact (only_grown (S := fun b => w.heap.size ≤ b) (((Only.refl _ wr).alloc _).alloc _) hgr4 (fun k hk => .inl (own_block hown hk))).below' hb
          · have hxl : I < l.length := by rw [HLN.out]; exact h1
            have he : (l.take (I + 1)).map codeOf = (l.take I).map codeOf ++ [codeOf (op, at_, fd, nn)] := by
              rw [List.take_succ_eq_append_getElem hxl, List.map_append]
              have := HX.out
              rw [List.getElem?_eq_getElem hxl] at this
              injection this with this
              rw [this]
              rfl
            rw [he]
            have hc : codeCells ((l.take I).map codeOf ++ [codeOf (op, at_, fd, nn)]) = codeCells ((l.take I).map codeOf) ++ [.int .i64 (op.tmod 11 % 11), .int .i64 nn, .string ⟨#[]⟩, .int .i64 (fd.tmod 5 % 5), .int .i64 (at_.tmod 6 % 6 - 1)] := by
              simp only [codeCells, List.flatMap_append, List.flatMap_cons, List.flatMap_nil, List.append_nil, CodeV.cells, codeOf, rest_eq2]
            rw [hc]
            exact hown4
        case measure => simp [intOf]; omega
    · have hcase : (n : Int) ≤ I ∨ (I : Int) < n ∧ (12 : Int) ≤ I := by omega
      have hI3 : (codesOf l) = (l.take I).map codeOf ∧ (codesOf l).length = I := by
        have hln := HLN.out
        have : l.take 12 = l.take I := by
          rcases hcase with h2 | ⟨h2, h3⟩
          · rw [List.take_of_length_le (by omega), List.take_of_length_le (by omega)]
          · obtain rfl : I = 12 := by omega
            rfl
        refine ⟨by unfold codesOf; rw [this], ?_⟩
        unfold codesOf
        rw [this, List.length_map, List.length_take]
        omega
      have HI := Lib.hid hI3
      clear h1 hI3
      rcases hcase with h1 | ⟨h1, h2⟩
      all_goals
        go_wp2
        go_ret
        refine ⟨A0, c0, by rw [HI.out.2]; rfl, ?_, hb⟩
        rw [HI.out.2, HI.out.1]
        exact hown
end Go.Proofs.Ytjapgmaldfckkaa
