/- How many bits of a word are on: the sum in halves, as math/bits does it. No program. -/
import Derived.Test.YtbkliamhignmfaaGreatDoorBits
namespace Go.Proofs.YtbkliamhignmfaaGreatDoor

/-- The sum of n digits to the base 2^w. -/
def dsum (w : Nat) : Nat → Nat → Nat
  | 0, _ => 0
  | n + 1, x => x % 2 ^ w + dsum w n (x / 2 ^ w)
/-- How many of the lowest n bits are on. -/
def popc (n x : Nat) : Nat := dsum 1 n x

/-- Every other field of w bits, n of them. -/
def fmask (w : Nat) : Nat → Nat
  | 0 => 0
  | n + 1 => fmask w n * 2 ^ (2 * w) + (2 ^ w - 1)

theorem and_split (a b c d m : Nat) (hb : b < 2 ^ m) (hd : d < 2 ^ m) : (a * 2 ^ m + b) &&& (c * 2 ^ m + d) = (a &&& c) * 2 ^ m + (b &&& d) := by
  have hbd : b &&& d < 2 ^ m := Nat.lt_of_le_of_lt Nat.and_le_left hb
  apply Nat.eq_of_testBit_eq
  intro i
  rw [Nat.testBit_and, Nat.mul_comm a, Nat.mul_comm c, Nat.mul_comm (a &&& c), Nat.testBit_two_pow_mul_add _ hb, Nat.testBit_two_pow_mul_add _ hd, Nat.testBit_two_pow_mul_add _ hbd]
  split <;> simp [Nat.testBit_and]

theorem and_fmask (w n x : Nat) : x &&& fmask w (n + 1) = (x / 2 ^ (2 * w) &&& fmask w n) * 2 ^ (2 * w) + x % 2 ^ w := by
  have h1 : 2 ^ w ≤ 2 ^ (2 * w) := Nat.pow_le_pow_right (by omega) (by omega)
  have h0 : 0 < 2 ^ w := Nat.two_pow_pos w
  have hx : x = x / 2 ^ (2 * w) * 2 ^ (2 * w) + x % 2 ^ (2 * w) := by
    have := Nat.div_add_mod x (2 ^ (2 * w)); rw [Nat.mul_comm]; exact this.symm
  conv => lhs; rw [hx]
  show _ &&& (fmask w n * 2 ^ (2 * w) + (2 ^ w - 1)) = _
  rw [and_split _ _ _ _ _ (Nat.mod_lt _ (Nat.two_pow_pos _)) (by omega), Nat.and_two_pow_sub_one_eq_mod, Nat.mod_mod_of_dvd _ (Nat.pow_dvd_pow 2 (show w ≤ 2 * w by omega))]

/-- One step: neighbours are added. -/
def pstep (w n x : Nat) : Nat := (x / 2 ^ w &&& fmask w n) + (x &&& fmask w n)

theorem pstep_succ (w n x : Nat) : pstep w (n + 1) x = pstep w n (x / 2 ^ (2 * w)) * 2 ^ (2 * w) + (x / 2 ^ w % 2 ^ w + x % 2 ^ w) := by
  unfold pstep
  rw [and_fmask, and_fmask, Nat.div_div_eq_div_mul, Nat.div_div_eq_div_mul, Nat.mul_comm (2 ^ w) (2 ^ (2 * w)), Nat.add_mul]
  omega

theorem digit_fits (w : Nat) (hw : 0 < w) (a b : Nat) (ha : a < 2 ^ w) (hb : b < 2 ^ w) : a + b < 2 ^ (2 * w) := by
  have e : 2 ^ (2 * w) = 2 ^ w * 2 ^ w := by rw [← Nat.pow_add]; congr 1; omega
  have h2 : 2 ≤ 2 ^ w := by
    calc 2 = 2 ^ 1 := rfl
      _ ≤ 2 ^ w := Nat.pow_le_pow_right (by omega) hw
  rw [e]
  have : 2 * 2 ^ w ≤ 2 ^ w * 2 ^ w := Nat.mul_le_mul_right _ h2
  omega

theorem dsum_pstep (w : Nat) (hw : 0 < w) : ∀ (n x : Nat), dsum (2 * w) n (pstep w n x) = dsum w (2 * n) x
  | 0, _ => rfl
  | n + 1, x => by
    have hp : 0 < 2 ^ w := Nat.two_pow_pos w
    have hf := digit_fits w hw (x / 2 ^ w % 2 ^ w) (x % 2 ^ w) (Nat.mod_lt _ hp) (Nat.mod_lt _ hp)
    have e1 : pstep w (n + 1) x % 2 ^ (2 * w) = x / 2 ^ w % 2 ^ w + x % 2 ^ w := by
      rw [pstep_succ, Nat.mul_comm, Nat.mul_add_mod, Nat.mod_eq_of_lt hf]
    have e2 : pstep w (n + 1) x / 2 ^ (2 * w) = pstep w n (x / 2 ^ (2 * w)) := by
      rw [pstep_succ, Nat.mul_comm, Nat.mul_add_div (Nat.two_pow_pos _), Nat.div_eq_of_lt hf, Nat.add_zero]
    show pstep w (n + 1) x % 2 ^ (2 * w) + dsum (2 * w) n (pstep w (n + 1) x / 2 ^ (2 * w)) = dsum w (2 * n + 2) x
    rw [e1, e2, dsum_pstep w hw n]
    show _ = x % 2 ^ w + (x / 2 ^ w % 2 ^ w + dsum w (2 * n) (x / 2 ^ w / 2 ^ w))
    rw [Nat.div_div_eq_div_mul, ← Nat.pow_add, show w + w = 2 * w by omega]
    omega

/-- Each digit is at most c. -/
def dle (w c x : Nat) : Prop := ∀ j, x / 2 ^ (w * j) % 2 ^ w ≤ c
theorem dle_pstep (w c : Nat) (hw : 0 < w) : ∀ (n x : Nat), dle w c x → dle (2 * w) (2 * c) (pstep w n x)
  | 0, x, _ => by
    intro j; simp [pstep, fmask]
  | n + 1, x, h => by
    have hp : 0 < 2 ^ w := Nat.two_pow_pos w
    have hf := digit_fits w hw (x / 2 ^ w % 2 ^ w) (x % 2 ^ w) (Nat.mod_lt _ hp) (Nat.mod_lt _ hp)
    intro j
    rw [pstep_succ]
    cases j with
    | zero =>
      have a := h 0
      have b := h 1
      simp only [Nat.mul_zero, Nat.pow_zero, Nat.div_one, Nat.mul_one] at a b
      rw [Nat.mul_zero, Nat.pow_zero, Nat.div_one, Nat.mul_comm, Nat.mul_add_mod, Nat.mod_eq_of_lt hf]
      omega
    | succ j =>
      have ih := dle_pstep w c hw n (x / 2 ^ (2 * w)) (fun i => by
        have := h (i + 2)
        rw [Nat.div_div_eq_div_mul, ← Nat.pow_add]
        rw [show 2 * w + w * i = w * (i + 2) by rw [Nat.mul_add]; omega]
        exact this) j
      rw [show 2 * w * (j + 1) = 2 * w + 2 * w * j by rw [Nat.mul_add]; omega, Nat.pow_add, ← Nat.div_div_eq_div_mul, Nat.mul_comm (pstep _ _ _), Nat.mul_add_div (Nat.two_pow_pos _), Nat.div_eq_of_lt hf, Nat.add_zero]
      exact ih
theorem dle_one (x : Nat) : dle 1 1 x := fun j => by have := Nat.mod_lt (x / 2 ^ (1 * j)) (show 0 < 2 ^ 1 by omega); omega

/-- The third step: the mask behind the sum. -/
theorem add_mask (x : Nat) (hx : x < 18446744073709551616) (h : dle 4 4 x) : (x + x / 16) &&& fmask 4 8 = pstep 4 8 x := by
  have d := fun j => h j
  have key : ∀ n y, dle 4 4 y → (y + y / 16) &&& fmask 4 n = pstep 4 n y := by
    intro n
    induction n with
    | zero => intro y _; simp [fmask, pstep]
    | succ n ih =>
      intro y hy
      have a := hy 0; have b := hy 1; have c := hy 2
      simp only [Nat.reduceMul, Nat.reducePow, Nat.div_one] at a b c
      have hy2 : dle 4 4 (y / 256) := fun i => by
        have := hy (i + 2)
        rw [show 256 = 2 ^ 8 from rfl, Nat.div_div_eq_div_mul, ← Nat.pow_add, show 8 + 4 * i = 4 * (i + 2) by omega]
        exact this
      have e1 : (y + y / 16) / 256 = y / 256 + y / 256 / 16 := by
        obtain ⟨z, hz⟩ : ∃ z, z = y / 16 / 16 := ⟨_, rfl⟩
        have hz' : y / 256 = z := by rw [hz, Nat.div_div_eq_div_mul]
        rw [hz'] at c ⊢
        omega
      have e2 : (y + y / 16) % 16 = y / 16 % 16 + y % 16 := by omega
      rw [and_fmask, pstep_succ]
      simp only [Nat.reduceMul, Nat.reducePow]
      rw [e1, e2, ih _ hy2]
  exact key 8 x h

theorem div_step (u v m : Nat) (hm : 0 < m) (hu : u < m) : (u + m * v) / m = v := by
  rw [Nat.add_mul_div_left _ _ hm, Nat.div_eq_of_lt hu, Nat.zero_add]

theorem bytes_core (b0 b1 b2 b3 b4 b5 b6 b7 : Nat) (h0 : b0 ≤ 8) (h1 : b1 ≤ 8) (h2 : b2 ≤ 8) (h3 : b3 ≤ 8) (h4 : b4 ≤ 8) (h5 : b5 ≤ 8) (h6 : b6 ≤ 8) (h7 : b7 ≤ 8) :
    let y := b1 + 256 * (b2 + 256 * (b3 + 256 * (b4 + 256 * (b5 + 256 * (b6 + 256 * b7)))))
    let x := b0 + 256 * y
    ((((x + y) % 18446744073709551616 + (x + y) % 18446744073709551616 / 65536) % 18446744073709551616 + ((x + y) % 18446744073709551616 + (x + y) % 18446744073709551616 / 65536) % 18446744073709551616 / 4294967296) % 18446744073709551616) % 128 = b0 + b1 + b2 + b3 + b4 + b5 + b6 + b7 := by
  intro y x
  have A : x + y = ((b0 + b1) + 256 * (b1 + b2)) + 65536 * ((b2 + b3) + 256 * (b3 + b4) + 65536 * (b4 + b5) + 16777216 * (b5 + b6) + 4294967296 * (b6 + b7) + 1099511627776 * b7) := by
    show b0 + 256 * (b1 + 256 * (b2 + 256 * (b3 + 256 * (b4 + 256 * (b5 + 256 * (b6 + 256 * b7)))))) + (b1 + 256 * (b2 + 256 * (b3 + 256 * (b4 + 256 * (b5 + 256 * (b6 + 256 * b7)))))) = _
    omega
  rw [A]
  clear_value x y
  clear A
  rw [Nat.mod_eq_of_lt (show ((b0 + b1) + 256 * (b1 + b2)) + 65536 * ((b2 + b3) + 256 * (b3 + b4) + 65536 * (b4 + b5) + 16777216 * (b5 + b6) + 4294967296 * (b6 + b7) + 1099511627776 * b7) < 18446744073709551616 by omega)]
  rw [div_step _ _ 65536 (by omega) (by omega)]
  have C : ((b0 + b1) + 256 * (b1 + b2)) + 65536 * ((b2 + b3) + 256 * (b3 + b4) + 65536 * (b4 + b5) + 16777216 * (b5 + b6) + 4294967296 * (b6 + b7) + 1099511627776 * b7) + ((b2 + b3) + 256 * (b3 + b4) + 65536 * (b4 + b5) + 16777216 * (b5 + b6) + 4294967296 * (b6 + b7) + 1099511627776 * b7)
     = ((b0 + b1 + b2 + b3) + 256 * (b1 + b2 + b3 + b4) + 65536 * (b2 + b3 + b4 + b5) + 16777216 * (b3 + b4 + b5 + b6)) + 4294967296 * ((b4 + b5 + b6 + b7) + 256 * (b5 + b6 + b7) + 65536 * (b6 + b7) + 16777216 * b7) := by omega
  rw [C]
  clear C
  rw [Nat.mod_eq_of_lt (show ((b0 + b1 + b2 + b3) + 256 * (b1 + b2 + b3 + b4) + 65536 * (b2 + b3 + b4 + b5) + 16777216 * (b3 + b4 + b5 + b6)) + 4294967296 * ((b4 + b5 + b6 + b7) + 256 * (b5 + b6 + b7) + 65536 * (b6 + b7) + 16777216 * b7) < 18446744073709551616 by omega)]
  rw [div_step _ _ 4294967296 (by omega) (by omega)]
  rw [Nat.mod_mod_of_dvd _ (show 128 ∣ 18446744073709551616 from ⟨144115188075855872, by decide⟩)]
  have D : ((b0 + b1 + b2 + b3) + 256 * (b1 + b2 + b3 + b4) + 65536 * (b2 + b3 + b4 + b5) + 16777216 * (b3 + b4 + b5 + b6)) + 4294967296 * ((b4 + b5 + b6 + b7) + 256 * (b5 + b6 + b7) + 65536 * (b6 + b7) + 16777216 * b7) + ((b4 + b5 + b6 + b7) + 256 * (b5 + b6 + b7) + 65536 * (b6 + b7) + 16777216 * b7)
     = (b0 + b1 + b2 + b3 + b4 + b5 + b6 + b7) + 128 * (2 * (b1 + b2 + b3 + b4 + b5 + b6 + b7) + 512 * (b2 + b3 + b4 + b5 + b6 + b7) + 131072 * (b3 + b4 + b5 + b6 + b7) + 33554432 * ((b4 + b5 + b6 + b7) + 256 * (b5 + b6 + b7) + 65536 * (b6 + b7) + 16777216 * b7)) := by omega
  rw [D, Nat.add_mul_mod_self_left, Nat.mod_eq_of_lt (by omega)]

/-- The last steps: bytes are added up. -/
theorem bytes_sum (x : Nat) (hx : x < 18446744073709551616) (h : dle 8 8 x) :
    ((((x + x / 256) % 18446744073709551616 + (x + x / 256) % 18446744073709551616 / 65536) % 18446744073709551616 + ((x + x / 256) % 18446744073709551616 + (x + x / 256) % 18446744073709551616 / 65536) % 18446744073709551616 / 4294967296) % 18446744073709551616) % 128 = dsum 8 8 x := by
  have d : ∀ y, y = y % 256 + 256 * (y / 256) := fun y => by omega
  have h0 := h 0; have h1 := h 1; have h2 := h 2; have h3 := h 3; have h4 := h 4; have h5 := h 5; have h6 := h 6; have h7 := h 7
  simp only [Nat.reduceMul, Nat.reducePow, Nat.div_one] at h0 h1 h2 h3 h4 h5 h6 h7
  have hs : dsum 8 8 x = x % 256 + x / 256 % 256 + x / 65536 % 256 + x / 16777216 % 256 + x / 4294967296 % 256 + x / 1099511627776 % 256 + x / 281474976710656 % 256 + x / 72057594037927936 % 256 := by
    simp only [dsum, Nat.reducePow, Nat.add_zero, Nat.div_div_eq_div_mul, Nat.reduceMul, Nat.add_assoc]
  have q0 := d x
  have q1 := d (x / 256)
  have q2 := d (x / 65536)
  have q3 := d (x / 16777216)
  have q4 := d (x / 4294967296)
  have q5 := d (x / 1099511627776)
  have q6 := d (x / 281474976710656)
  have q7 : x / 72057594037927936 = x / 72057594037927936 % 256 := by
    rw [Nat.mod_eq_of_lt]
    rw [Nat.div_lt_iff_lt_mul (by decide)]
    exact hx
  simp only [Nat.div_div_eq_div_mul, Nat.reduceMul] at q0 q1 q2 q3 q4 q5 q6
  rw [hs]
  generalize x / 72057594037927936 % 256 = b7 at *
  generalize x / 281474976710656 % 256 = b6 at *
  generalize x / 1099511627776 % 256 = b5 at *
  generalize x / 4294967296 % 256 = b4 at *
  generalize x / 16777216 % 256 = b3 at *
  generalize x / 65536 % 256 = b2 at *
  generalize x / 256 % 256 = b1 at *
  generalize x % 256 = b0 at *
  generalize x / 72057594037927936 = y7 at *
  generalize x / 281474976710656 = y6 at *
  generalize x / 1099511627776 = y5 at *
  generalize x / 4294967296 = y4 at *
  generalize x / 16777216 = y3 at *
  generalize x / 65536 = y2 at *
  generalize x / 256 = y1 at *
  subst q7 q6 q5 q4 q3 q2 q1
  rw [q0]
  exact bytes_core b0 b1 b2 b3 b4 b5 b6 y7 h0 h1 h2 h3 h4 h5 h6 h7

/-- All of OnesCount64. -/
def ones64 (x : Nat) : Nat :=
  let a := pstep 1 32 x
  let b := pstep 2 16 a
  let c := (b + b / 16) &&& fmask 4 8
  let d := (c + c / 256) % 18446744073709551616
  let e := (d + d / 65536) % 18446744073709551616
  let f := (e + e / 4294967296) % 18446744073709551616
  f % 128

theorem pstep_lt (w n x : Nat) (hw : 0 < w) : pstep w n x < 2 ^ (2 * w * n) := by
  induction n generalizing x with
  | zero => simp [pstep, fmask]
  | succ n ih =>
    have hp : 0 < 2 ^ w := Nat.two_pow_pos w
    have hf := digit_fits w hw (x / 2 ^ w % 2 ^ w) (x % 2 ^ w) (Nat.mod_lt _ hp) (Nat.mod_lt _ hp)
    have := ih (x / 2 ^ (2 * w))
    rw [pstep_succ, Nat.mul_add, Nat.pow_add, Nat.mul_one]
    have h2 : (pstep w n (x / 2 ^ (2 * w)) + 1) * 2 ^ (2 * w) ≤ 2 ^ (2 * w * n) * 2 ^ (2 * w) := Nat.mul_le_mul_right _ this
    rw [Nat.add_mul] at h2
    omega

theorem ones64_eq (x : Nat) (hx : x < 18446744073709551616) : ones64 x = popc 64 x := by
  have ha := dle_pstep 1 1 (by omega) 32 x (dle_one x)
  have hb := dle_pstep 2 2 (by omega) 16 (pstep 1 32 x) ha
  have la := pstep_lt 1 32 x (by omega)
  have lb := pstep_lt 2 16 (pstep 1 32 x) (by omega)
  have hc := dle_pstep 4 4 (by omega) 8 (pstep 2 16 (pstep 1 32 x)) hb
  have lc := pstep_lt 4 8 (pstep 2 16 (pstep 1 32 x)) (by omega)
  have s1 := dsum_pstep 1 (by omega) 32 x
  have s2 := dsum_pstep 2 (by omega) 16 (pstep 1 32 x)
  have s3 := dsum_pstep 4 (by omega) 8 (pstep 2 16 (pstep 1 32 x))
  have e := add_mask (pstep 2 16 (pstep 1 32 x)) (by simpa using lb) hb
  unfold ones64
  simp only [e]
  rw [bytes_sum _ (by simpa using lc) hc, s3, s2, s1]
  rfl

theorem popc_zero (n : Nat) : ∀ x, x < 2 ^ n → (popc n x = 0 ↔ x = 0) := by
  unfold popc
  induction n with
  | zero => intro x h; simp [dsum]; simpa using h
  | succ n ih =>
    intro x h
    have := ih (x / 2) (by rw [Nat.pow_succ] at h; omega)
    simp only [dsum, Nat.pow_one]
    omega

theorem popc_le (n : Nat) : ∀ x, popc n x ≤ n := by
  unfold popc
  induction n with
  | zero => intro x; simp [dsum]
  | succ n ih => intro x; have := ih (x / 2); simp only [dsum, Nat.pow_one]; omega

/-- One bit alone: a power of two. -/
theorem popc_one (n : Nat) : ∀ x, x < 2 ^ n → (popc n x = 1 ↔ ∃ k, k < n ∧ x = 2 ^ k) := by
  induction n with
  | zero => intro x h; simp [popc, dsum]
  | succ n ih =>
    intro x h
    have hx : x / 2 < 2 ^ n := by rw [Nat.pow_succ] at h; omega
    have h1 := ih (x / 2) hx
    have h0 := popc_zero n (x / 2) hx
    have e : popc (n + 1) x = x % 2 + popc n (x / 2) := by simp [popc, dsum]
    rw [e]
    constructor
    · intro hp
      by_cases h2 : x % 2 = 1
      · exact ⟨0, by omega, by have := h0.1 (by omega); simp; omega⟩
      · obtain ⟨k, hk, e⟩ := h1.1 (by omega)
        exact ⟨k + 1, by omega, by rw [Nat.pow_succ]; omega⟩
    · rintro ⟨k, hk, rfl⟩
      cases k with
      | zero => simp at h0 ⊢; exact h0
      | succ k =>
        have := h1.2 ⟨k, by omega, by rw [Nat.pow_succ]; omega⟩
        rw [Nat.pow_succ] at this ⊢; omega

attribute [irreducible] popc dsum fmask pstep ones64

end Go.Proofs.YtbkliamhignmfaaGreatDoor
