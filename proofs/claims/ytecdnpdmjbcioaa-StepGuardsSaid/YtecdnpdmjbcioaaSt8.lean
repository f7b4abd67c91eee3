/- Chapter 8: a number more at a place. -/
import Derived.Test.YtecdnpdmjbcioaaSt7
namespace Go.Proofs.Ytecdnpdmjbcioaa
open Go.RowKit
set_option linter.unusedVariables false
set_option linter.unusedSimpArgs false

theorem one_at (w : World) (x : Value) (e : TypeId) : ∀ (j : Nat) (u : Value), [x][j]? = some u → (w.alloc (.cells #[x] e)).cell? ((⟨w.heap.size, 0, none⟩ : Addr).add j) = some u := fun j u hj => by
  match j, hj with
  | 0, hj =>
    injection hj with hj
    rw [← hj]
    exact box_of (alloc_new w _)
set_option maxHeartbeats 4000000 in
set_option maxRecDepth 20000 in
theorem with0 {w0 w : World} {X g c : Nat} (h : Cop w0 w X g c) (n : Int) :
    Calls Try.prog 34 #[.slice (some ⟨X, 0, none⟩) 1 1, .int .i64 0, .int .i64 n] w fun e w' => e = .returned (.slice (some ⟨X, 0, none⟩) 1 1) ∧ (∃ A c2, w'.heap[X]? = some (.cells #[.slice A 2 c2] 22 (0, 0))) ∧ Only (fun k => k = X) w w' := by
  obtain ⟨i0, hi, hz0, hz1, hz2⟩ := info_parts infoI
  have x0 := box_of h.x
  have hc1 : 1 ≤ c := h.run.2
  have hc2 : (1 : Int) ≤ c := by omega
  have hb : Below w.heap.size w (w.alloc (.cells #[.int .i64 n] 3)) := bl_alloc (Below.refl _ _) _
  have h1 := h.below hb
  have HO := Lib.hid h1.row
  have HX := Lib.hid h1.x
  have HB := Lib.hid hb
  have hne : ∀ k, (Value.slice (some ⟨g, 0, none⟩) 1 c).ownBlock = some k → k < w.heap.size := fun k hk => by
    have e : g = k := by simpa [Value.ownBlock] using hk
    rw [← e]
    exact h.run.1.i
  clear h h1 hb
  go_enter Try.func34, Try.ntmps34
  go_wp2_with (at_builtin; refine wpList_append_head _ rfl (.tmp 31) (.tmp 33) 22 rfl w0.heap.size 3 i0 _ 1 8 Try.underlying22 hi hz0 hz1 hz2 rfl (by decide) (some ⟨g, 0, none⟩) 1 c [.int .i64 0] 1 (by decide) rfl HO.out ⟨w.heap.size, 0, none⟩ 1 1 [.int .i64 n] rfl rfl (one_at w _ _) (by simp [Value.oneCell']) (by decide) (by simp only [maxLen]; omega) (by omega) ?_; intro v8 w8 hown8 hgr8; obtain ⟨A8, c8, rfl⟩ := own_form hown8; have ho8 := only_grown (S := fun _ => False) (Only.refl _ _) hgr8 (fun k hk => by cases hk); have hx8 := ho8.block HX.out (fun h => h); have x8 := box_of hx8; have f8 := free_of_blk (cs := [Value.slice (some ⟨g, 0, none⟩) 1 c]) hx8 0; have HX8 := Lib.hid hx8; have HO8 := Lib.hid ho8; clear hx8 ho8 hgr8 hown8)
  go_ret
  have hon : Only (fun k => k = X) w (w8.setCell ⟨X, 0, none⟩ (.slice A8 2 c8)) := ((((Only.refl (fun k => k = X) w).alloc (.cells #[.int .i64 n] 3)).trans (HO8.out.mono (fun k hk => hk.elim)))).setCell ⟨X, 0, none⟩ (.slice A8 2 c8) (.inl rfl)
  exact ⟨rfl, ⟨A8, c8, setCell_same (cs := [Value.slice (some ⟨g, 0, none⟩) 1 c]) HX8.out _⟩, hon⟩
set_option maxHeartbeats 4000000 in
set_option maxRecDepth 20000 in
theorem with1 {w0 w : World} {X g c : Nat} (h : Cop w0 w X g c) (n : Int) :
    Calls Try.prog 34 #[.slice (some ⟨X, 0, none⟩) 1 1, .int .i64 1, .int .i64 n] w fun e w' => ∃ A m c2, e = .returned (.slice A m c2) ∧ Below w.heap.size w w' := by
  obtain ⟨i0, hi, hz0, hz1, hz2⟩ := info_parts infoIs
  have hb : Below w.heap.size w ((w.alloc (.cells #[.int .i64 n] 3)).alloc (.cells #[.slice (some ⟨w.heap.size, 0, none⟩) 1 1] 22)) := bl_alloc (bl_alloc (Below.refl _ _) _) _
  have hown : ((w.alloc (.cells #[.int .i64 n] 3)).alloc (.cells #[.slice (some ⟨w.heap.size, 0, none⟩) 1 1] 22)).ownsRow w0.heap.size 22 1 (.slice (some ⟨X, 0, none⟩) 1 1) 1 [.slice (some ⟨g, 0, none⟩) 1 c] :=
    ⟨rfl, .inr ⟨X, 1, #[.slice (some ⟨g, 0, none⟩) 1 c], rfl, h.lo, (hb.block _ (block_lt h.x)).trans h.x, by decide, by decide, rfl, rfl⟩⟩
  have HO := Lib.hid hown
  have HB := Lib.hid hb
  have hnew : ∀ (j : Nat) (u : Value), [Value.slice (some ⟨w.heap.size, 0, none⟩) 1 1][j]? = some u → ((w.alloc (.cells #[.int .i64 n] 3)).alloc (.cells #[.slice (some ⟨w.heap.size, 0, none⟩) 1 1] 22)).cell? ((⟨w.heap.size + 1, 0, none⟩ : Addr).add j) = some u := fun j u hj => by
    have := one_at (w.alloc (.cells #[.int .i64 n] 3)) (.slice (some ⟨w.heap.size, 0, none⟩) 1 1) 22 j u hj
    simpa using this
  have HN := Lib.hid hnew
  clear h hb hown hnew
  go_enter Try.func34, Try.ntmps34
  go_wp2_with (at_builtin; refine wpList_append_head _ rfl (.tmp 15) (.tmp 18) 40 rfl w0.heap.size 22 i0 _ 1 24 Try.underlying40 hi hz0 hz1 hz2 rfl (by decide) (some ⟨X, 0, none⟩) 1 1 [.slice (some ⟨g, 0, none⟩) 1 c] 1 (by decide) rfl HO.out ⟨w.heap.size + 1, 0, none⟩ 1 1 [.slice (some ⟨w.heap.size, 0, none⟩) 1 1] rfl rfl HN.out (by simp [Value.oneCell']) (by decide) (by simp only [maxLen]; omega) (by omega) ?_; intro v8 w8 hown8 hgr8; obtain ⟨A8, c8, rfl⟩ := own_form hown8; have ho8 := only_grown (S := fun _ => False) (Only.refl _ _) hgr8 (fun k hk => by cases hk); have hb8 := bl_only HB.out ho8 (fun k hk => hk.elim); have HB8 := Lib.hid hb8; clear hb8 ho8 hgr8 hown8)
  go_ret
  exact ⟨_, _, _, rfl, HB8.out⟩
end Go.Proofs.Ytecdnpdmjbcioaa
