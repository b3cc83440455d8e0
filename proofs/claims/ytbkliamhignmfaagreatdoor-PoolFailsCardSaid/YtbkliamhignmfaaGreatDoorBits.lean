/- Plain facts on lists of bits and the words of 64 that hold them. No program. -/
import Derived.Laws.Bits64b
import Derived.Lib.TrailingZeros
import Derived.WalkKit
namespace Go.Proofs.YtbkliamhignmfaaGreatDoor
open Go.RowKit

/-- The number whose bits are a list, the first one the least. -/
def natOf : List Bool → Nat
  | [] => 0
  | b :: t => b.toNat + 2 * natOf t

/-- Bit i of a list; off behind its end. -/
def bit (l : List Bool) (i : Nat) : Bool := l.getD i false

theorem bit_set_self (l : List Bool) (i : Nat) (on : Bool) (h : i < l.length) : bit (l.set i on) i = on := by
  simp [bit, List.getD_eq_getElem?_getD, h]
theorem bit_set_ne (l : List Bool) (i j : Nat) (on : Bool) (h : i ≠ j) : bit (l.set i on) j = bit l j := by
  simp only [bit, List.getD_eq_getElem?_getD]
  rw [List.getElem?_set_ne h]
theorem bit_past (l : List Bool) (i : Nat) (h : l.length ≤ i) : bit l i = false := by
  simp [bit, List.getD_eq_getElem?_getD, h]

theorem testBit_natOf : ∀ (l : List Bool) (i : Nat), (natOf l).testBit i = l.getD i false
  | [], i => by simp [natOf]
  | b :: t, 0 => by
    cases b <;> simp [natOf, Nat.testBit_zero] <;> omega
  | b :: t, i + 1 => by
    have h := testBit_natOf t i
    rw [Nat.testBit_succ]
    have : natOf (b :: t) / 2 = natOf t := by cases b <;> simp [natOf] <;> omega
    rw [this, h]; simp

theorem natOf_lt : ∀ (l : List Bool), natOf l < 2 ^ l.length
  | [] => by simp [natOf]
  | b :: t => by
    have h := natOf_lt t
    have e : 2 ^ (b :: t).length = 2 * 2 ^ t.length := by rw [List.length_cons, Nat.pow_succ]; omega
    rw [e]
    cases b <;> simp [natOf] <;> omega

/-- Word j of a list of bits. -/
def bword (l : List Bool) (j : Nat) : Nat := natOf ((l.drop (64 * j)).take 64)

theorem bword_lt (l : List Bool) (j : Nat) : bword l j < 18446744073709551616 := by
  have h := natOf_lt ((l.drop (64 * j)).take 64)
  have h2 : ((l.drop (64 * j)).take 64).length ≤ 64 := List.length_take_le _ _
  have h3 : 2 ^ ((l.drop (64 * j)).take 64).length ≤ 2 ^ 64 := Nat.pow_le_pow_right (by omega) h2
  unfold bword
  have e : (2 : Nat) ^ 64 = 18446744073709551616 := by decide
  omega

theorem testBit_bword (l : List Bool) (j i : Nat) : (bword l j).testBit i = (decide (i < 64) && bit l (64 * j + i)) := by
  unfold bword bit
  rw [testBit_natOf]
  by_cases h : i < 64
  · simp [h, List.getD_eq_getElem?_getD, List.getElem?_take, List.getElem?_drop]
  · simp [h, List.getD_eq_getElem?_getD, List.getElem?_take]

theorem testBit_bword_at (l : List Bool) (i : Nat) : (bword l (i / 64)).testBit (i % 64) = bit l i := by
  rw [testBit_bword]
  have h : i % 64 < 64 := Nat.mod_lt _ (by omega)
  have e : 64 * (i / 64) + i % 64 = i := Nat.div_add_mod i 64
  simp [h, e]

theorem testBit_one_shl (a t : Nat) : (1 <<< a).testBit t = decide (t = a) := by
  rw [Nat.one_shiftLeft, Nat.testBit_two_pow]
  by_cases h : a = t
  · simp [h]
  · have h' : ¬ t = a := fun e => h e.symm
    simp [h, h']

/-- A word behind a flip of one bit. -/
theorem bword_set (l : List Bool) (i : Nat) (on : Bool) (hi : i < l.length) (hne : bit l i ≠ on) (j : Nat) :
    bword (l.set i on) j = if j = i / 64 then bword l j ^^^ (1 <<< (i % 64)) else bword l j := by
  have hm : i % 64 < 64 := Nat.mod_lt _ (by omega)
  have hd := Nat.div_add_mod i 64
  apply Nat.eq_of_testBit_eq
  intro t
  rw [testBit_bword]
  by_cases hj : j = i / 64
  · subst hj
    rw [if_pos rfl, Nat.testBit_xor, testBit_bword, testBit_one_shl]
    by_cases ht : t = i % 64
    · subst ht
      rw [hd]
      have e : bit (l.set i on) i = on := bit_set_self l i on hi
      rw [e]
      cases on <;> cases hg : bit l i <;> simp_all
    · have e : bit (l.set i on) (64 * (i / 64) + t) = bit l (64 * (i / 64) + t) := bit_set_ne l i _ on (by omega)
      rw [e]; simp [ht]
  · rw [if_neg hj, testBit_bword]
    by_cases ht : t < 64
    · have e : bit (l.set i on) (64 * j + t) = bit l (64 * j + t) := bit_set_ne l i _ on (by omega)
      rw [e]
    · simp [ht]

theorem bword_congr (l m : List Bool) (h : ∀ i, bit l i = bit m i) (j : Nat) : bword l j = bword m j := by
  apply Nat.eq_of_testBit_eq
  intro t
  rw [testBit_bword, testBit_bword, h]

/-- How many words a list of bits has. -/
def nw (l : List Bool) : Nat := (l.length + 63) / 64
def bwords (l : List Bool) : List Value := (List.range (nw l)).map fun j => .int .u64 (bword l j)
theorem bwords_length (l : List Bool) : (bwords l).length = nw l := by simp [bwords]
theorem bwords_get (l : List Bool) (j : Nat) (h : j < nw l) : (bwords l)[j]? = some (.int .u64 (bword l j)) := by
  simp [bwords, h]
theorem bwords_set (l : List Bool) (i : Nat) (on : Bool) (hi : i < l.length) (hne : bit l i ≠ on) :
    (bwords l).set (i / 64) (.int .u64 ((bword l (i / 64) ^^^ (1 <<< (i % 64)) : Nat) : Int)) = bwords (l.set i on) := by
  apply List.ext_getElem?
  intro j
  have hn : nw (l.set i on) = nw l := by simp [nw]
  by_cases hj : j < nw l
  · rw [bwords_get _ _ (by rw [hn]; exact hj), bword_set l i on hi hne]
    by_cases e : i / 64 = j
    · subst e
      rw [List.getElem?_set_self (by rw [bwords_length]; exact hj), if_pos rfl]
    · rw [List.getElem?_set_ne e, bwords_get _ _ hj, if_neg (by omega)]
  · rw [List.getElem?_eq_none (by rw [List.length_set, bwords_length]; omega), List.getElem?_eq_none (by rw [bwords_length, hn]; omega)]

/-- The first bit that is so, from an index on; -1. -/
def firstFrom (l : List Bool) (on : Bool) (from_ : Nat) : Int :=
  match (List.range l.length).find? (fun i => decide (from_ ≤ i) && bit l i == on) with
  | some i => i
  | none => -1
def firstI (l : List Bool) (on : Bool) (from_ : Int) : Int := firstFrom l on from_.toNat

theorem firstFrom_some {l : List Bool} {on : Bool} {f i : Nat} (hi : i < l.length) (hf : f ≤ i) (ho : bit l i = on)
    (hmin : ∀ j, f ≤ j → j < i → bit l j ≠ on) : firstFrom l on f = i := by
  unfold firstFrom
  have : (List.range l.length).find? (fun i => decide (f ≤ i) && bit l i == on) = some i := by
    rw [List.find?_range_eq_some]
    refine ⟨by simp [hf, ho], by simpa using hi, ?_⟩
    intro j hj
    by_cases h : f ≤ j
    · have := hmin j h hj
      simp [h, this]
    · simp [h]
  rw [this]

theorem firstFrom_none {l : List Bool} {on : Bool} {f : Nat} (h : ∀ j, f ≤ j → j < l.length → bit l j ≠ on) : firstFrom l on f = -1 := by
  unfold firstFrom
  have : (List.range l.length).find? (fun i => decide (f ≤ i) && bit l i == on) = none := by
    rw [List.find?_eq_none]
    intro j hj
    have hj' : j < l.length := by simpa using hj
    by_cases hf : f ≤ j
    · have := h j hf hj'
      simp [hf, this]
    · simp [hf]
  rw [this]

theorem firstFrom_cases (l : List Bool) (on : Bool) (f : Nat) :
    (firstFrom l on f = -1 ∧ ∀ j, f ≤ j → j < l.length → bit l j ≠ on) ∨
    (∃ i, firstFrom l on f = (i : Nat) ∧ i < l.length ∧ f ≤ i ∧ bit l i = on ∧ ∀ j, f ≤ j → j < i → bit l j ≠ on) := by
  by_cases h : ∃ i, i < l.length ∧ f ≤ i ∧ bit l i = on
  · have key : ∀ n, ∀ i, i ≤ n → i < l.length → f ≤ i → bit l i = on → ∃ i, i < l.length ∧ f ≤ i ∧ bit l i = on ∧ ∀ j, f ≤ j → j < i → bit l j ≠ on := by
      intro n
      induction n with
      | zero => intro i h1 h2 h3 h4; exact ⟨i, h2, h3, h4, fun j _ hj => by omega⟩
      | succ n ih =>
        intro i h1 h2 h3 h4
        by_cases hx : ∃ j, f ≤ j ∧ j < i ∧ bit l j = on
        · obtain ⟨j, a, b, c⟩ := hx
          exact ih j (by omega) (by omega) a c
        · exact ⟨i, h2, h3, h4, fun j a b c => hx ⟨j, a, b, c⟩⟩
    obtain ⟨i, a, b, c⟩ := h
    obtain ⟨i, a, b, c, d⟩ := key i i (Nat.le_refl _) a b c
    exact Or.inr ⟨i, firstFrom_some a b c d, a, b, c, d⟩
  · have h' : ∀ j, f ≤ j → j < l.length → bit l j ≠ on := fun j a b c => h ⟨j, b, a, c⟩
    exact Or.inl ⟨firstFrom_none h', h'⟩

/-- The lowest bit of a word. -/
theorem ctz_spec (x : Nat) (h0 : x ≠ 0) (h : x < 18446744073709551616) :
    Lib.ctz 64 x < 64 ∧ x.testBit (Lib.ctz 64 x) = true ∧ ∀ j, j < Lib.ctz 64 x → x.testBit j = false := by
  obtain ⟨hlow, hk⟩ := Lib.lowest_bit 64 x h0 h
  obtain ⟨m, hm, hlt⟩ := Lib.ctzFrom_spec 64 x (by omega) h
  have hc : Lib.ctz 64 x = Lib.ctzFrom 64 x := by unfold Lib.ctz; first | rfl | (rw [if_neg h0])
  rw [hc] at hk ⊢
  generalize Lib.ctzFrom 64 x = k at *
  refine ⟨hk, ?_, ?_⟩
  · rw [hm, Nat.testBit_two_pow_mul]; simp [Nat.testBit_zero]
  · intro j hj
    rw [hm, Nat.testBit_two_pow_mul]; simp; omega

end Go.Proofs.YtbkliamhignmfaaGreatDoor
