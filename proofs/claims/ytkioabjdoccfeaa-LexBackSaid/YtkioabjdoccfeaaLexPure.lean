/- Chapter 2: what tokens are, over lists of bytes. No program in it. -/
import Derived.Test.YtkioabjdoccfeaaBase
import Derived.Test.YtkioabjdoccfeaaSl
namespace Go.Proofs.Ytkioabjdoccfeaa
open Go.RowKit
set_option linter.unusedVariables false
set_option linter.unusedSimpArgs false

abbrev Bytes := List UInt8
def bl (s : ByteArray) : Bytes := s.data.toList
def mkb (l : Bytes) : ByteArray := ⟨l.toArray⟩
theorem mkb_bl (s : ByteArray) : mkb (bl s) = s := by
  cases s with
  | mk d => show ByteArray.mk d.toList.toArray = _; rw [Array.toArray_toList]
theorem bl_mkb (l : Bytes) : bl (mkb l) = l := by simp [mkb, bl]
theorem bl_length (s : ByteArray) : (bl s).length = s.size := by
  show s.data.toList.length = s.data.size
  exact Array.length_toList
theorem bl_extract (s : ByteArray) (a b : Nat) : bl (s.extract a b) = ((bl s).take b).drop a := by simp [bl, ByteArray.data_extract, Array.toList_extract, List.extract_eq_take_drop, List.drop_take]
theorem bl_inj {s t : ByteArray} (h : bl s = bl t) : s = t := by rw [← mkb_bl s, h, mkb_bl]
def isSmall (c : UInt8) : Bool := decide (97 ≤ c.toNat) && decide (c.toNat ≤ 122)
def isDigit (c : UInt8) : Bool := decide (48 ≤ c.toNat) && decide (c.toNat ≤ 57)
def isCap (c : UInt8) : Bool := decide (65 ≤ c.toNat) && decide (c.toNat ≤ 90)
def isLetter (c : UInt8) : Bool := isSmall c || isCap c
def isWord (c : UInt8) : Bool := isSmall c || isDigit c
def isBlank (c : UInt8) : Bool := c.toNat == 32 || c.toNat == 9 || c.toNat == 10
def isSign (c : UInt8) : Bool := [44, 43, 45, 42, 47, 37, 61, 60, 62, 46, 35, 33, 40, 41].contains c
def isTwo (c : UInt8) : Bool := [33, 60, 62].contains c
def runN (p : UInt8 → Bool) (l : Bytes) : Nat := (l.takeWhile p).length
theorem runN_le (p : UInt8 → Bool) (l : Bytes) : runN p l ≤ l.length := (List.takeWhile_sublist p).length_le
theorem runN_yes {p : UInt8 → Bool} {l : Bytes} {k : Nat} (hk : k < l.length) (h : k ≤ runN p l) (hp : p (l[k]) = true) : k + 1 ≤ runN p l := by
  induction l generalizing k with
  | nil => simp at hk
  | cons c cs ih =>
    cases k with
    | zero => simp only [List.getElem_cons_zero] at hp; simp [runN, List.takeWhile_cons, hp]
    | succ k =>
      by_cases hc : p c = true
      · have : runN p (c :: cs) = runN p cs + 1 := by simp [runN, List.takeWhile_cons, hc]
        rw [this] at h ⊢
        have := ih (k := k) (by simpa using hk) (by omega) (by simpa using hp)
        omega
      · have : runN p (c :: cs) = 0 := by simp [runN, List.takeWhile_cons, hc]
        omega
theorem runN_no {p : UInt8 → Bool} {l : Bytes} {k : Nat} (h : k ≤ runN p l) (hp : (hk : k < l.length) → p (l[k]) = false) : runN p l = k := by
  induction l generalizing k with
  | nil => simp [runN] at h ⊢; omega
  | cons c cs ih =>
    cases k with
    | zero =>
      have := hp (by simp)
      simp only [List.getElem_cons_zero] at this
      simp [runN, List.takeWhile_cons, this]
    | succ k =>
      by_cases hc : p c = true
      · have e : runN p (c :: cs) = runN p cs + 1 := by simp [runN, List.takeWhile_cons, hc]
        rw [e] at h ⊢
        have := ih (k := k) (by omega) (fun hk => by have := hp (by simpa using hk); simpa using this)
        omega
      · have : runN p (c :: cs) = 0 := by simp [runN, List.takeWhile_cons, hc]
        omega
theorem runN_all {p : UInt8 → Bool} {l : Bytes} : ∀ c ∈ l.take (runN p l), p c = true := by
  induction l with
  | nil => intro c hc; simp at hc
  | cons a cs ih =>
    intro c hc
    by_cases ha : p a = true
    · have e : runN p (a :: cs) = runN p cs + 1 := by simp [runN, List.takeWhile_cons, ha]
      rw [e, List.take_succ_cons] at hc
      rcases List.mem_cons.1 hc with rfl | hc
      · exact ha
      · exact ih c hc
    · have : runN p (a :: cs) = 0 := by simp [runN, List.takeWhile_cons, ha]
      rw [this] at hc
      simp at hc
/-- The place of the first byte from one on that is no blank. -/
def skipN (l : Bytes) (a : Nat) : Nat := a + runN isBlank (l.drop a)
theorem skipN_le {l : Bytes} {a : Nat} (h : a ≤ l.length) : skipN l a ≤ l.length := by
  have := runN_le isBlank (l.drop a)
  simp at this
  unfold skipN; omega
theorem skipN_ge (l : Bytes) (a : Nat) : a ≤ skipN l a := by unfold skipN; omega
/-- The number of digits, if it is not too great. -/
def numStep (o : Option Nat) (c : UInt8) : Option Nat := match o with
  | none => none
  | some n => if (9223372036854775807 - (c.toNat - 48)) / 10 < n then none else some (n * 10 + (c.toNat - 48))
def numOf (l : Bytes) : Option Nat := l.foldl numStep (some 0)
theorem numOf_snoc (l : Bytes) (c : UInt8) : numOf (l ++ [c]) = numStep (numOf l) c := by simp [numOf]
theorem numFold_none (l : Bytes) : l.foldl numStep none = none := by
  induction l with
  | nil => rfl
  | cons c cs ih => simpa [numStep] using ih
theorem numOf_pre {l : Bytes} {k : Nat} (h : numOf (l.take k) = none) : numOf l = none := by
  have : numOf l = (l.drop k).foldl numStep (numOf (l.take k)) := by
    unfold numOf
    rw [← List.foldl_append, List.take_append_drop]
  rw [this, h, numFold_none]
def endsL (p : UInt8 → Bool) (l : Bytes) : Bool := match l with
  | [] => true
  | c :: _ => !p c
def signN (l : Bytes) : Nat := match l with
  | [] => 0
  | c :: r => if (r.head? == some 61 && isTwo c) = true then 2 else if isSign c = true then 1 else 0
theorem signN_le (l : Bytes) : signN l ≤ l.length := by
  unfold signN
  match l with
  | [] => simp
  | [c] => simp; split <;> omega
  | c :: d :: r => simp only [List.length_cons]; split <;> (try split) <;> omega
/-- What stands at the head of a text: its kind (0: none), how long it is, its number. -/
structure Hd where
  kind : Nat
  len : Nat
  n : Nat
def Hd.none : Hd := ⟨0, 0, 0⟩
def nextH (l : Bytes) : Hd := match l with
  | [] => Hd.none
  | c :: r =>
    if isSmall c = true then ⟨1, runN isWord (c :: r), 0⟩
    else if isDigit c = true then (match numOf ((c :: r).take (runN isDigit (c :: r))) with
      | some n => if endsL isLetter ((c :: r).drop (runN isDigit (c :: r))) = true then ⟨3, runN isDigit (c :: r), n⟩ else Hd.none
      | Option.none => Hd.none)
    else if (decide (65 ≤ c.toNat) && decide (c.toNat ≤ 72)) = true then (if endsL isLetter r = true ∧ endsL isDigit r = true then ⟨2, 1, c.toNat - 65⟩ else Hd.none)
    else if signN (c :: r) = 0 then Hd.none else ⟨4, signN (c :: r), 0⟩
theorem runN_pos {p : UInt8 → Bool} {c : UInt8} {r : Bytes} (h : p c = true) : 1 ≤ runN p (c :: r) := by simp [runN, List.takeWhile_cons, h]
theorem nextH_le (l : Bytes) : (nextH l).len ≤ l.length := by
  unfold nextH
  match l with
  | [] => simp [Hd.none]
  | c :: r =>
    have h1 := runN_le isWord (c :: r)
    have h2 := runN_le isDigit (c :: r)
    have h3 := signN_le (c :: r)
    simp only
    split
    · exact h1
    split
    · split
      · split
        · exact h2
        · simp [Hd.none]
      · simp [Hd.none]
    split
    · split <;> simp [Hd.none]
    split
    · simp [Hd.none]
    · exact h3
theorem nextH_pos {l : Bytes} (h : (nextH l).kind ≠ 0) : 1 ≤ (nextH l).len := by
  unfold nextH at *
  match l, h with
  | [], h => simp [Hd.none] at h
  | c :: r, h =>
    simp only at *
    split
    · rename_i hc
      exact runN_pos (by simp [isWord, hc])
    rename_i h1
    rw [if_neg h1] at h
    split
    · rename_i hc
      rw [if_pos hc] at h
      split
      · rename_i n hn
        rw [hn] at h
        simp only at h
        split
        · exact runN_pos hc
        · rename_i hx
          rw [if_neg hx] at h
          simp [Hd.none] at h
      · rename_i hn
        rw [hn] at h
        simp [Hd.none] at h
    rename_i h2
    rw [if_neg h2] at h
    split
    · rename_i hc
      rw [if_pos hc] at h
      split
      · exact Nat.le_refl _
      · rename_i hx
        rw [if_neg hx] at h
        simp [Hd.none] at h
    rename_i h3
    rw [if_neg h3] at h
    split
    · rename_i hx
      rw [if_pos hx] at h
      simp [Hd.none] at h
    · show 1 ≤ signN (c :: r)
      omega
/-- A token. -/
structure Tok where
  kind : Nat
  at_ : Nat
  text : Bytes
  n : Nat
def Tok.zero : Tok := ⟨0, 0, [], 0⟩
def Tok.cells (t : Tok) : List Value := [.int .i64 t.kind, .int .i64 t.at_, .string (mkb t.text), .int .i64 t.n]
def tokOf (l : Bytes) (a : Nat) : Tok := ⟨(nextH (l.drop a)).kind, a, (l.drop a).take (nextH (l.drop a)).len, (nextH (l.drop a)).n⟩
theorem tokOf_len (l : Bytes) (a : Nat) : (tokOf l a).text.length = (nextH (l.drop a)).len := by
  have := nextH_le (l.drop a)
  simp only [tokOf, List.length_take]
  omega
/-- The tokens from a place on, and where there is none any more. -/
def toksFrom : Nat → Bytes → Nat → List Tok × Nat
  | 0, _, a => ([], a)
  | f + 1, l, a => if a < l.length then (if (nextH (l.drop a)).kind = 0 then ([], a) else
      (tokOf l a :: (toksFrom f l (skipN l (a + (nextH (l.drop a)).len))).1, (toksFrom f l (skipN l (a + (nextH (l.drop a)).len))).2)) else ([], a)
def eachL (l : Bytes) : List Tok × Nat := toksFrom (l.length + 1) l (skipN l 0)
theorem toksFrom_fuel (l : Bytes) : ∀ (f g a : Nat), a ≤ l.length → l.length - a < f → l.length - a < g → toksFrom f l a = toksFrom g l a := by
  intro f
  induction f with
  | zero => intro g a h1 h2 h3; omega
  | succ f ih =>
    intro g a h1 h2 h3
    match g, h3 with
    | g + 1, h3 =>
      unfold toksFrom
      by_cases ha : a < l.length
      · rw [if_pos ha, if_pos ha]
        by_cases hk : (nextH (l.drop a)).kind = 0
        · rw [if_pos hk, if_pos hk]
        · rw [if_neg hk, if_neg hk]
          have hp := nextH_pos hk
          have hle := nextH_le (l.drop a)
          rw [List.length_drop] at hle
          have hs := skipN_ge l (a + (nextH (l.drop a)).len)
          have hs2 := skipN_le (l := l) (a := a + (nextH (l.drop a)).len) (by omega)
          rw [ih g _ hs2 (by omega) (by omega)]
      · rw [if_neg ha, if_neg ha]
/-- One step. -/
def restFrom (l : Bytes) (a : Nat) : List Tok × Nat := toksFrom (l.length + 1) l a
theorem rest_end {l : Bytes} {a : Nat} (h : ¬ a < l.length) : restFrom l a = ([], a) := by
  unfold restFrom toksFrom
  rw [if_neg h]
theorem rest_none {l : Bytes} {a : Nat} (h : (nextH (l.drop a)).kind = 0) : restFrom l a = ([], a) := by
  unfold restFrom toksFrom
  by_cases ha : a < l.length
  · rw [if_pos ha, if_pos h]
  · rw [if_neg ha]
theorem rest_some {l : Bytes} {a : Nat} (ha : a < l.length) (h : (nextH (l.drop a)).kind ≠ 0) :
    restFrom l a = (tokOf l a :: (restFrom l (skipN l (a + (nextH (l.drop a)).len))).1, (restFrom l (skipN l (a + (nextH (l.drop a)).len))).2) := by
  have hp := nextH_pos h
  have hle := nextH_le (l.drop a)
  rw [List.length_drop] at hle
  have hs := skipN_ge l (a + (nextH (l.drop a)).len)
  have hs2 := skipN_le (l := l) (a := a + (nextH (l.drop a)).len) (by omega)
  have e := toksFrom_fuel l l.length (l.length + 1) (skipN l (a + (nextH (l.drop a)).len)) hs2 (by omega) (by omega)
  unfold restFrom
  rw [show toksFrom (l.length + 1) l a = _ from rfl]
  conv => lhs; unfold toksFrom
  rw [if_pos ha, if_neg h, e]
theorem eachL_eq (l : Bytes) : eachL l = restFrom l (skipN l 0) := rfl
/-- Where one goes on behind tokens. -/
def behind (l : Bytes) (a : Nat) (ts : List Tok) : Nat := match ts.getLast? with
  | none => a
  | some t => skipN l (t.at_ + t.text.length)
theorem behind_snoc (l : Bytes) (a : Nat) (ts : List Tok) (t : Tok) : behind l a (ts ++ [t]) = skipN l (t.at_ + t.text.length) := by simp [behind]
theorem behind_cons (l : Bytes) (a : Nat) (ts : List Tok) (t : Tok) : behind l a (t :: ts) = behind l (skipN l (t.at_ + t.text.length)) ts := by
  unfold behind
  cases ts with
  | nil => simp
  | cons u us =>
    rw [List.getLast?_cons_cons, List.getLast?_eq_some_getLast (List.cons_ne_nil u us)]
/-- Tokens come in order, each within the text. -/
theorem rest_facts (l : Bytes) : ∀ (m a : Nat), l.length - a ≤ m → a ≤ l.length →
    (restFrom l a).2 = behind l a (restFrom l a).1 ∧ (restFrom l a).2 ≤ l.length ∧ (∀ t ∈ (restFrom l a).1, a ≤ t.at_ ∧ t.at_ + t.text.length ≤ l.length ∧ 1 ≤ t.text.length) ∧ (restFrom l a).1.length ≤ l.length - a := by
  intro m
  induction m with
  | zero =>
    intro a h1 h2
    rw [rest_end (by omega)]
    exact ⟨rfl, h2, (fun t ht => by cases ht), Nat.zero_le _⟩
  | succ m ih =>
    intro a h1 h2
    by_cases ha : a < l.length
    · by_cases hk : (nextH (l.drop a)).kind = 0
      · rw [rest_none hk]
        exact ⟨rfl, h2, (fun t ht => by cases ht), Nat.zero_le _⟩
      · have hp := nextH_pos hk
        have hle := nextH_le (l.drop a)
        rw [List.length_drop] at hle
        have hs := skipN_ge l (a + (nextH (l.drop a)).len)
        have hs2 := skipN_le (l := l) (a := a + (nextH (l.drop a)).len) (by omega)
        obtain ⟨e1, e2, e3, e4⟩ := ih _ (by omega) hs2
        have htl := tokOf_len l a
        rw [rest_some ha hk]
        refine ⟨?_, e2, fun t ht => ?_, ?_⟩
        · show _ = behind l a (tokOf l a :: _)
          rw [behind_cons, htl]
          exact e1
        · rcases List.mem_cons.1 ht with rfl | ht
          · rw [htl]
            exact ⟨Nat.le_refl _, by show a + _ ≤ _; omega, hp⟩
          · have := e3 t ht
            exact ⟨by omega, this.2⟩
        · simp only [List.length_cons]
          omega
    · rw [rest_end ha]
      exact ⟨rfl, h2, (fun t ht => by cases ht), Nat.zero_le _⟩
/-- What Lex tells: tokens, a place, an error. -/
structure Lexed where
  toks : List Tok
  at_ : Nat
  err : Nat
def lexL (l : Bytes) : Lexed :=
  if 200 < (eachL l).1.length then ⟨[], ((eachL l).1.getD 200 Tok.zero).at_, 12⟩
  else if (eachL l).2 < l.length then ⟨[], (eachL l).2, 10⟩ else ⟨(eachL l).1, l.length, 0⟩
end Go.Proofs.Ytkioabjdoccfeaa
