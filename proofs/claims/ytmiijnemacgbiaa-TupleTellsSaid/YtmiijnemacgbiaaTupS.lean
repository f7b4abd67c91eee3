/- Chapter 6: rows of matches in memory; how the law splits rows into matches. -/
import Derived.Test.YtmiijnemacgbiaaTupW
namespace Go.Proofs.Ytmiijnemacgbiaa
open Go.RowKit
set_option linter.unusedVariables false
set_option linter.unusedSimpArgs false

/-- A match as a row of the law holds it. -/
structure MatV where
  a : Option Addr
  n : Nat
  c : Nat
  rs : List RowV
def MatV.val (m : MatV) : Value := .slice m.a m.n m.c
def MatV.num (m : MatV) : List (List Int) := nums m.rs
def matCells (ms : List MatV) : List Value := ms.map fun m => .slice m.a m.n m.c
theorem matCells_append (a b : List MatV) : matCells (a ++ b) = matCells a ++ matCells b := by simp [matCells]
theorem matCells_one {ms : List MatV} {v : Value} (hv : v ∈ matCells ms) : v.oneCell' = true := by
  unfold matCells at hv
  obtain ⟨r, _, rfl⟩ := List.mem_map.1 hv
  rfl
/-- A match that can be read; it is small. -/
structure MatOk (w : World) (m : MatV) : Prop where
  cap : m.n ≤ m.c
  max : m.c ≤ maxLen
  nil : m.a = none → m.n = 0 ∧ m.c = 0
  rows : RowsAt w m.a m.n m.rs
  few : m.n ≤ 12
  four : ∀ q ∈ m.rs, q.n ≤ 4
theorem MatOk.below {w w' : World} {m : MatV} (h : MatOk w m) (hb : Below w.heap.size w w') : MatOk w' m := ⟨h.cap, h.max, h.nil, h.rows.below hb, h.few, h.four⟩
/-- A row of matches. -/
structure MatsAt (w : World) (A : Option Addr) (n : Nat) (ms : List MatV) : Prop where
  len : ms.length = n
  few : n ≤ 12
  cells : 0 < n → ∃ b off, A = some ⟨b, off, none⟩ ∧ b < w.heap.size ∧ ∀ i m, ms[i]? = some m → w.cell? ⟨b, off + i, none⟩ = some (.slice m.a m.n m.c)
  each : ∀ m ∈ ms, MatOk w m
theorem MatsAt.below {w w' : World} {A : Option Addr} {n : Nat} {ms : List MatV} (h : MatsAt w A n ms) (hb : Below w.heap.size w w') : MatsAt w' A n ms :=
  ⟨h.len, h.few, fun hp => by
    obtain ⟨b, off, rfl, hlt, hc⟩ := h.cells hp
    exact ⟨b, off, rfl, Nat.lt_of_lt_of_le hlt hb.size, fun i r hi => (hb.cell (p := ⟨b, off + i, none⟩) hlt).trans (hc i r hi)⟩, fun m hm => (h.each m hm).below hb⟩
theorem MatsAt.of_own {w : World} {lo : Nat} {A : Option Addr} {n c : Nat} {ms : List MatV} (h : w.ownsRow lo 22 1 (.slice A n c) n (matCells ms)) (hs : n ≤ 12) (he : ∀ m ∈ ms, MatOk w m) : MatsAt w A n ms := by
  have hl : ms.length = n := by have := h.1; rw [matCells, List.length_map] at this; omega
  refine ⟨hl, hs, fun hp => ?_, he⟩
  obtain ⟨g, rfl, _, _, hg, hc⟩ := own_some h hp
  refine ⟨g, 0, rfl, hg, fun i r hi => ?_⟩
  rw [Nat.zero_add]
  exact hc i _ (by unfold matCells; rw [List.getElem?_map, hi]; rfl)
theorem MatsAt.reads {w : World} {A : Option Addr} {n c : Nat} {ms : List MatV} (h : MatsAt w A n ms) (ad : Addr) (hA : A = some ad) : Reads w 1 (.slice A n c) n (matCells ms) := by
  refine ⟨by rw [matCells, List.length_map, h.len, Nat.mul_one], fun u hu => matCells_one hu, .inl ⟨ad, c, by rw [hA], fun j u hj => ?_⟩⟩
  have hj2 : j < ms.length := by
    have := (List.getElem?_eq_some_iff.1 hj).1
    rwa [matCells, List.length_map] at this
  obtain ⟨b, off, h1, _, hc⟩ := h.cells (by rw [← h.len]; omega)
  rw [hA] at h1
  injection h1 with h1
  subst h1
  have := hc j _ (List.getElem?_eq_getElem hj2)
  rw [matCells, List.getElem?_map, List.getElem?_eq_getElem hj2] at hj
  injection hj with hj
  rw [← hj]
  simpa [Addr.add_lit] using this
theorem infoMat : (Try.prog.info? 22).map (fun i => (i.zero, i.size, i.bytes)) = some (some (.slice none 0 0), 1, 24) := by kernel_rfl
theorem RowsAt.take {w : World} {A : Option Addr} {n : Nat} {rs : List RowV} (h : RowsAt w A n rs) {m : Nat} (hm : m ≤ n) : RowsAt w A m (rs.take m) :=
  ⟨by rw [List.length_take, h.len]; omega, by have := h.small; omega, fun hp => by
    obtain ⟨b, off, rfl, hlt, hc⟩ := h.cells (by omega)
    refine ⟨b, off, rfl, hlt, fun i r hi => hc i r ?_⟩
    have hi2 := (List.getElem?_eq_some_iff.1 hi).1
    rw [List.length_take] at hi2
    rwa [List.getElem?_take_of_lt (by omega)] at hi, fun r hr => h.each r (List.mem_of_mem_take hr)⟩
theorem RowsAt.drop {w : World} {A : Option Addr} {n c : Nat} {rs : List RowV} (h : RowsAt w A n rs) (hc : n ≤ c) {m : Nat} (hm : m ≤ n) : RowsAt w (if c = m then A else A.map (·.add m)) (n - m) (rs.drop m) :=
  ⟨by rw [List.length_drop, h.len], by have := h.small; omega, fun hp => by
    obtain ⟨b, off, rfl, hlt, hc⟩ := h.cells (by omega)
    refine ⟨b, off + m, ?_, hlt, fun i r hi => ?_⟩
    · rw [if_neg (by omega)]; simp [Addr.add_lit]
    · rw [List.getElem?_drop] at hi
      have := hc _ r hi
      rwa [Nat.add_assoc], fun r hr => h.each r (List.mem_of_mem_drop hr)⟩
def lenOf : Value → Nat
  | .slice _ n _ => n
  | _ => 0
theorem rem3 (z : Int) : ∃ k : Nat, 1 ≤ k ∧ k ≤ 3 ∧ ((z.tmod 3 + 3).tmod 3) + 1 = k := by
  have h1 := Int.lt_tmod_of_pos z (show (0 : Int) < 3 by decide)
  have h2 : z.tmod 3 < 3 := Int.tmod_lt_of_pos z (by decide)
  have h3 : 0 ≤ z.tmod 3 + 3 := by omega
  rw [Int.tmod_eq_emod_of_nonneg h3]
  exact ⟨((z.tmod 3 + 3) % 3 + 1).toNat, by omega, by omega, by omega⟩
/-- What hands back a row of matches of its own. -/
def MatsOut (w : World) (e : Ending) (w' : World) : Prop := ∃ g m c2 ms, e = .returned (.slice g m c2) ∧ MatsAt w' g m ms ∧ w'.ownsRow w.heap.size 22 1 (.slice g m c2) m (matCells ms) ∧ Below w.heap.size w w'
set_option maxHeartbeats 4000000 in
theorem matches_at {w : World} {A : Option Addr} {n c : Nat} {rs : List RowV} (h : RowsAt w A n rs) :
    Calls Try.prog 14 #[.slice A n c] w (MatsOut w) := by
  obtain ⟨i0, hi, hz0, hz1, hz2⟩ := info_parts infoMat
  go_enter Try.func14, Try.ntmps14
  go_wp2_with fail
  refine (few_at h).mono ?_
  rintro e w1 ⟨g, m, c2, qs, rfl, hR, h4, hm12, hown, hb1⟩
  have hc2 : m ≤ c2 ∧ c2 ≤ maxLen ∧ (g = none → m = 0 ∧ c2 = 0) := by
    rcases hown.2 with ⟨hv, h0⟩ | ⟨g', cap, cur, hv, _, _, h1, h2, _⟩
    · injection hv with e1 e2 e3
      subst e1 e2 e3
      exact ⟨Nat.le_refl _, by decide, fun _ => ⟨rfl, rfl⟩⟩
    · injection hv with e1 e2 e3
      subst e1 e3
      exact ⟨h1, h2, fun e => (by cases e)⟩
  clear hown h
  have HB1 := Lib.hid hb1
  clear hb1
  obtain ⟨k1, k2, k3⟩ := hc2
  have HR := Lib.hid hR
  have H4 := Lib.hid h4
  have K3 := Lib.hid k3
  have hs1 := HB1.out.size
  clear hR h4 k3
  go_wp2_with fail
  go_loopw [0, 3, 4] (fun l out nn wr => ∃ (A' : Option Addr) (n' c' k : Nat) (qs' : List RowV) (ms : List MatV), l = .slice A' n' c' ∧ n' + k ≤ 12 ∧ n' ≤ c' ∧ c' ≤ maxLen ∧ (A' = none → n' = 0 ∧ c' = 0) ∧ RowsAt w1 A' n' qs' ∧ (∀ q ∈ qs', q.n ≤ 4) ∧ wr.ownsRow w1.heap.size 22 1 out k (matCells ms) ∧ (∀ x ∈ ms, MatOk w1 x) ∧ Below w1.heap.size w1 wr) (fun l _ _ _ => lenOf l)
  case atStart => exact ⟨g, m, c2, 0, qs, [], rfl, by omega, k1, k2, K3.out, HR.out, H4.out, ⟨rfl, .inl ⟨rfl, rfl⟩⟩, (fun x hx => by cases hx), Below.refl _ _⟩
  case round =>
    obtain ⟨A', n', c', k, qs', ms, rfl, hnk, hnc, hcm, hnil, hR', h4', hrow, hok, hb⟩ := hrel
    by_cases hn : 0 < n'
    · have iN : (0 : Int) < n' := by omega
      obtain ⟨b, off, rfl, hblt, hc⟩ := (hR'.below hb).cells hn
      obtain ⟨r, hr⟩ : ∃ r, qs'[0]? = some r := ⟨_, List.getElem?_eq_getElem (by rw [hR'.len]; exact hn)⟩
      have c0 := hc 0 r hr
      rw [Nat.add_zero] at c0
      obtain ⟨r1, r2, r3, r4⟩ := (hR'.below hb).each r (List.mem_of_getElem? hr)
      obtain ⟨Ao, co, rfl⟩ := own_form hrow
      obtain ⟨ra, rn, rc, rz⟩ := r
      dsimp only at c0 r1 r2 r3 r4
      have HR' := Lib.hid hR'
      have H4' := Lib.hid h4'
      have HROW := Lib.hid hrow
      have HOK := Lib.hid hok
      have HB := Lib.hid hb
      have HC := Lib.hid hc
      clear hR' h4' hrow hok hb hc hr hnil r3
      by_cases hrn : 0 < rn
      · have irn : (0 : Int) < rn := by omega
        obtain ⟨gz, oz, rfl, hgz, hcz⟩ := r4.cells hrn
        have cz := hcz 0 hrn
        rw [Nat.add_zero] at cz
        obtain ⟨q, q1, q2, q3⟩ := rem3 (rz.getD 0 0)
        clear hcz r4
        generalize rz.getD 0 0 = z at *
        have b1 := Int.lt_tmod_of_pos z (show (0 : Int) < 3 by decide)
        have b2 : z.tmod 3 < 3 := Int.tmod_lt_of_pos z (by decide)
        have e1 : wrap64 (z.tmod 3 + 3) = z.tmod 3 + 3 := by unfold wrap64; omega
        have e2 : wrap64 (1 + (z.tmod 3 + 3).tmod 3) = (q : Int) := by rw [Int.add_comm, q3]; unfold wrap64; omega
        clear q3 b1 b2
        by_cases hq : ¬ n' < q
        · have iq : (q : Int) ≤ n' := by omega
          have iqc : (q : Int) ≤ c' := by omega
          have hdr : RowsAt w1 (if c' = q then some ⟨b, off, none⟩ else some ⟨b, off + q, none⟩) (n' - q) (qs'.drop q) := by have := HR'.out.drop hnc (m := q) (by omega); simp only [Option.map_some, Addr.add_lit] at this; first | exact this | (rw [if_neg (by omega)] at this; exact this)
          have HDR := Lib.hid hdr
          clear hdr
          have hrowa := HROW.out.alloc (.cells #[.slice (some ⟨b, off, none⟩) (q) c'] 22)
          have hba := bl_alloc HB.out (.cells #[.slice (some ⟨b, off, none⟩) (q) c'] 22)
          have hnn := alloc_new wr (.cells #[.slice (some ⟨b, off, none⟩) (q) c'] 22)
          have hz9 := hba.size
          have HRA := Lib.hid hrowa
          have HBA := Lib.hid hba
          clear hrowa hba
          go_wp2_with (at_builtin; refine wpList_append_lies _ rfl (.tmp 28) (.tmp 32) 34 rfl w1.heap.size 22 i0 _ 1 24 Try.underlying34 hi hz0 hz1 hz2 rfl (by decide) (.slice Ao k co) k _ rfl HRA.out ⟨wr.heap.size, 0, none⟩ 1 1 [.slice (some ⟨b, off, none⟩) (q) c'] rfl rfl (World.news_of_block (cs := #[.slice (some ⟨b, off, none⟩) (q) c']) (t := 22) (fr := (0, 0)) hnn) (by simp [Value.oneCell']) (by decide) (by simp only [maxLen]; omega) (by omega) hz9 _ rfl ?_; intro g8 cap8 w8 hown8 hgr8 hat8 _; have ho8 := only_grown (S := fun k2 => (Value.slice Ao k co).ownBlock = some k2) (Only.refl _ _) hgr8 (fun k2 hk => .inl hk); have hb8 := bl_only HBA.out ho8 (fun k2 hk => own_block HRA.out hk))
          go_roundw
          case rel => exact ⟨_, _, _, k + 1, qs'.drop (q), ms ++ [⟨some ⟨b, off, none⟩, q, c', qs'.take (q)⟩], rfl, by omega, by omega, by omega, (fun e => by split at e <;> cases e), HDR.out, fun q hq => H4'.out q (List.mem_of_mem_drop hq), by rw [matCells_append]; exact hown8, fun x hx => (by rcases List.mem_append.1 hx with hx | hx; exact HOK.out x hx; obtain rfl := List.mem_singleton.1 hx; exact ⟨by show q ≤ c'; omega, hcm, (fun e => by cases e), HR'.out.take (m := q) (by omega), by show q ≤ 12; omega, fun q hq => H4'.out q (List.mem_of_mem_take hq)⟩), hb8⟩
          case measure => simp [lenOf]; omega
        · have iq : (n' : Int) < q := by omega
          have inc : (n' : Int) ≤ c' := by omega
          have hdr : RowsAt w1 (if c' = n' then some ⟨b, off, none⟩ else some ⟨b, off + n', none⟩) (n' - n') (qs'.drop n') := by have := HR'.out.drop hnc (m := n') (by omega); simp only [Option.map_some, Addr.add_lit] at this; first | exact this | (rw [if_neg (by omega)] at this; exact this)
          have HDR := Lib.hid hdr
          clear hdr
          have hrowa := HROW.out.alloc (.cells #[.slice (some ⟨b, off, none⟩) (n') c'] 22)
          have hba := bl_alloc HB.out (.cells #[.slice (some ⟨b, off, none⟩) (n') c'] 22)
          have hnn := alloc_new wr (.cells #[.slice (some ⟨b, off, none⟩) (n') c'] 22)
          have hz9 := hba.size
          have HRA := Lib.hid hrowa
          have HBA := Lib.hid hba
          clear hrowa hba
          go_wp2_with (at_builtin; refine wpList_append_lies _ rfl (.tmp 28) (.tmp 32) 34 rfl w1.heap.size 22 i0 _ 1 24 Try.underlying34 hi hz0 hz1 hz2 rfl (by decide) (.slice Ao k co) k _ rfl HRA.out ⟨wr.heap.size, 0, none⟩ 1 1 [.slice (some ⟨b, off, none⟩) (n') c'] rfl rfl (World.news_of_block (cs := #[.slice (some ⟨b, off, none⟩) (n') c']) (t := 22) (fr := (0, 0)) hnn) (by simp [Value.oneCell']) (by decide) (by simp only [maxLen]; omega) (by omega) hz9 _ rfl ?_; intro g8 cap8 w8 hown8 hgr8 hat8 _; have ho8 := only_grown (S := fun k2 => (Value.slice Ao k co).ownBlock = some k2) (Only.refl _ _) hgr8 (fun k2 hk => .inl hk); have hb8 := bl_only HBA.out ho8 (fun k2 hk => own_block HRA.out hk))
          go_roundw
          case rel => exact ⟨_, _, _, k + 1, qs'.drop (n'), ms ++ [⟨some ⟨b, off, none⟩, n', c', qs'.take (n')⟩], rfl, by omega, by omega, by omega, (fun e => by split at e <;> cases e), (by have := HDR.out; rwa [Nat.sub_self] at this), fun q hq => H4'.out q (List.mem_of_mem_drop hq), by rw [matCells_append]; exact hown8, fun x hx => (by rcases List.mem_append.1 hx with hx | hx; exact HOK.out x hx; obtain rfl := List.mem_singleton.1 hx; exact ⟨by show n' ≤ c'; omega, hcm, (fun e => by cases e), HR'.out.take (m := n') (by omega), by show n' ≤ 12; omega, fun q hq => H4'.out q (List.mem_of_mem_take hq)⟩), hb8⟩
          case measure => simp [lenOf]; omega
      · have irn : (rn : Int) ≤ 0 := by omega
        have i1 : (1 : Int) ≤ n' := by omega
        have i1c : (1 : Int) ≤ c' := by omega
        have hdr : RowsAt w1 (if c' = 1 then some ⟨b, off, none⟩ else some ⟨b, off + 1, none⟩) (n' - 1) (qs'.drop 1) := by have := HR'.out.drop hnc (m := 1) (by omega); simp only [Option.map_some, Addr.add_lit] at this; first | exact this | (rw [if_neg (by omega)] at this; exact this)
        have HDR := Lib.hid hdr
        clear hdr
        clear r4
        have hrowa := HROW.out.alloc (.cells #[.slice (some ⟨b, off, none⟩) (1) c'] 22)
        have hba := bl_alloc HB.out (.cells #[.slice (some ⟨b, off, none⟩) (1) c'] 22)
        have hnn := alloc_new wr (.cells #[.slice (some ⟨b, off, none⟩) (1) c'] 22)
        have hz9 := hba.size
        have HRA := Lib.hid hrowa
        have HBA := Lib.hid hba
        clear hrowa hba
        go_wp2_with (at_builtin; refine wpList_append_lies _ rfl (.tmp 28) (.tmp 32) 34 rfl w1.heap.size 22 i0 _ 1 24 Try.underlying34 hi hz0 hz1 hz2 rfl (by decide) (.slice Ao k co) k _ rfl HRA.out ⟨wr.heap.size, 0, none⟩ 1 1 [.slice (some ⟨b, off, none⟩) (1) c'] rfl rfl (World.news_of_block (cs := #[.slice (some ⟨b, off, none⟩) (1) c']) (t := 22) (fr := (0, 0)) hnn) (by simp [Value.oneCell']) (by decide) (by simp only [maxLen]; omega) (by omega) hz9 _ rfl ?_; intro g8 cap8 w8 hown8 hgr8 hat8 _; have ho8 := only_grown (S := fun k2 => (Value.slice Ao k co).ownBlock = some k2) (Only.refl _ _) hgr8 (fun k2 hk => .inl hk); have hb8 := bl_only HBA.out ho8 (fun k2 hk => own_block HRA.out hk))
        go_roundw
        case rel => exact ⟨_, _, _, k + 1, qs'.drop (1), ms ++ [⟨some ⟨b, off, none⟩, 1, c', qs'.take (1)⟩], rfl, by omega, by omega, by omega, (fun e => by split at e <;> cases e), HDR.out, fun q hq => H4'.out q (List.mem_of_mem_drop hq), by rw [matCells_append]; exact hown8, fun x hx => (by rcases List.mem_append.1 hx with hx | hx; exact HOK.out x hx; obtain rfl := List.mem_singleton.1 hx; exact ⟨by show 1 ≤ c'; omega, hcm, (fun e => by cases e), HR'.out.take (m := 1) (by omega), by show 1 ≤ 12; omega, fun q hq => H4'.out q (List.mem_of_mem_take hq)⟩), hb8⟩
        case measure => simp [lenOf]; omega
    · obtain rfl : n' = 0 := by omega
      obtain ⟨Ao, co, rfl⟩ := own_form hrow
      have HROW := Lib.hid hrow
      have HOK := Lib.hid hok
      have HB := Lib.hid hb
      clear hrow hok hb
      go_wp2_with fail
      go_ret
      exact ⟨_, _, _, ms, rfl, .of_own HROW.out (by omega) (fun x hx => (HOK.out x hx).below HB.out), ownsRow_base HROW.out hs1, bl_then HB1.out HB.out⟩
end Go.Proofs.Ytmiijnemacgbiaa
