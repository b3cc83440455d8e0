/- Layer 2: what each function of package bitmap does, of a list of bits. -/
import Derived.Test.YtbkliamhignmfaaGreatDoorProg
import Derived.Test.YtbkliamhignmfaaGreatDoorBase
import Derived.Test.YtbkliamhignmfaaGreatDoorBits
import Derived.Test.YtbkliamhignmfaaGreatDoorTz
import Derived.LoopTactic
import Derived.RegionTactic
import Derived.BigRegion
namespace Go.Proofs.YtbkliamhignmfaaGreatDoor
open Go.RowKit

/-- Bit i of a list; off out of it. -/
def bitI (l : List Bool) (i : Int) : Bool := decide (0 ≤ i) && bit l i.toNat
/-- Behind 'Set': the bits; whether one turned. -/
def setI (l : List Bool) (on : Bool) (i : Int) : List Bool := if 0 ≤ i ∧ i < (l.length : Nat) then l.set i.toNat on else l

/-- At block p lies a map of the bits l; its words lie at block q. -/
structure BM (w : World) (p q : Nat) (l : List Bool) : Prop where
  pos : 0 < l.length
  le : l.length ≤ 1048576
  hp : Blk w p [.int .i64 (l.length : Nat), .slice (some ⟨q, 0, none⟩) (nw l) (nw l)] 148
  hq : Blk w q (bwords l) 45

theorem BM.kept {F : Nat → Prop} {w w' : World} {p q : Nat} {l : List Bool} (h : BM w p q l) (k : Kept F w w') (hp : ¬ F p) (hq : ¬ F q) : BM w' p q l :=
  ⟨h.pos, h.le, h.hp.kept k hp, h.hq.kept k hq⟩

theorem BM.drew {w : World} {p q : Nat} {l : List Bool} (h : BM w p q l) : BM w.drew p q l := ⟨h.pos, h.le, h.hp, h.hq⟩

theorem BM.flip {w : World} {p q : Nat} {l : List Bool} (h : BM w p q l) (i : Int) (on : Bool) (hi : 0 ≤ i) (hi2 : i < (l.length : Nat)) (hb : (bitI l i == on) = false) :
    BM (w.setCell ⟨q, (i / 64).toNat, none⟩ (.int .u64 (bits BinOp.xor IntKind.u64 (bword l (i / 64).toNat : Nat) (IntKind.u64.wrap (2 ^ (i % 64).toNat))))) p q (setI l on i) := by
  have hb' : bit l i.toNat ≠ on := by simpa [bitI, hi] using hb
  have e0 : setI l on i = l.set i.toNat on := by simp [setI, hi, hi2]
  have e1 : (i / 64).toNat = i.toNat / 64 := by omega
  have e2 : (i % 64).toNat = i.toNat % 64 := by omega
  have hlt : 1 <<< (i.toNat % 64) < 18446744073709551616 := by
    rw [Nat.one_shiftLeft]
    exact Nat.lt_of_le_of_lt (Nat.pow_le_pow_right (by omega) (show i.toNat % 64 ≤ 63 by omega)) (by decide)
  have e3 : IntKind.u64.wrap (2 ^ (i % 64).toNat) = ((1 <<< (i.toNat % 64) : Nat) : Int) := by
    rw [e2, IntKind.wrap_u64]
    have : ((2 : Int) ^ (i.toNat % 64)) = ((1 <<< (i.toNat % 64) : Nat) : Int) := by rw [Nat.one_shiftLeft]; simp
    rw [this]; generalize 1 <<< (i.toNat % 64) = z at hlt ⊢; omega
  have hpq : p ≠ q := h.hp.ne h.hq (by decide)
  have hlen : (l.set i.toNat on).length = l.length := by simp
  have hnw : nw (l.set i.toNat on) = nw l := by simp [nw]
  rw [e0, e3, bits_xor_u64_nat _ _ (bword_lt _ _) hlt, e1]
  refine ⟨by rw [hlen]; exact h.pos, by rw [hlen]; exact h.le, ?_, ?_⟩
  · rw [hlen, hnw]; exact h.hp.setCell_ne _ _ (fun e => hpq e.symm)
  · rw [← bwords_set l i.toNat on (by omega) hb']
    exact h.hq.setCell _ _

theorem get_form (x : Nat) (hx : x < 18446744073709551616) (k : Nat) : (bits BinOp.and IntKind.u64 ((x : Int) / 2 ^ k) 1 == 1) = x.testBit k := by
  have e : ((x : Int) / 2 ^ k) = ((x / 2 ^ k : Nat) : Int) := by simp
  rw [e]
  have := bits_and_u64_nat (x / 2 ^ k) 1 (Nat.lt_of_le_of_lt (Nat.div_le_self _ _) hx) (by decide)
  rw [show ((1 : Int)) = ((1 : Nat) : Int) from rfl, this, Nat.and_one_is_mod, Nat.testBit_eq_decide_div_mod_eq]
  rw [Bool.eq_iff_iff]; simp
  omega

theorem bitmap_Len (p q : Nat) (l : List Bool) (w : World) (h : BM w p q l) :
    Calls Tryz.prog 83 #[.pointer (some ⟨p, 0, none⟩)] w fun e w' => e = .returned (.int .i64 (l.length : Nat)) ∧ w = w' := by
  have h0 := h.hp.cell 0
  go_enter Tryz.func83, Tryz.ntmps83
  go_wp2
  go_ret
  exact ⟨rfl, rfl⟩


set_option maxHeartbeats 400000 in
theorem bitmap_Get (p q : Nat) (l : List Bool) (i : Int) (w : World) (h : BM w p q l) :
    Calls Tryz.prog 95 #[.pointer (some ⟨p, 0, none⟩), .int .i64 i] w fun e w' => e = .returned (.bool (bitI l i)) ∧ w = w' := by
  have h0 := h.hp.cell 0
  have h1 := h.hp.cell 1
  have hn := h.le
  by_cases hi : 0 ≤ i
  · by_cases hi2 : i < (l.length : Nat)
    · have hj : (i / 64).toNat < nw l := by unfold nw; omega
      have hx := h.hq.cell (i / 64).toNat
      rw [bwords_get _ _ hj] at hx
      have hlt : i / 64 < (nw l : Nat) := by omega
      have hm : nw l ≤ 1048576 := by unfold nw; omega
      have fin : (bits BinOp.and IntKind.u64 ((bword l (i / 64).toNat : Nat) / 2 ^ (i % 64).toNat) 1 == 1) = bitI l i := by
        rw [get_form _ (bword_lt _ _)]
        have e1 : (i / 64).toNat = i.toNat / 64 := by omega
        have e2 : (i % 64).toNat = i.toNat % 64 := by omega
        rw [e1, e2, testBit_bword_at]; simp [bitI, hi]
      have FIN := Lib.hid fin
      clear fin hj
      go_enter Tryz.func95, Tryz.ntmps95
      go_wp2_with (go_at_call 83; refine (bitmap_Len _ _ _ _ h).mono ?_; rintro e w' ⟨rfl, rfl⟩)
      go_ret
      exact ⟨congrArg (fun b => Ending.returned (.bool b)) FIN.out, rfl⟩
    · have fin : bitI l i = false := by
        simp only [bitI, bit_past l i.toNat (by omega), Bool.and_false]
      have FIN := Lib.hid fin
      clear fin
      go_enter Tryz.func95, Tryz.ntmps95
      go_wp2_with (go_at_call 83; refine (bitmap_Len _ _ _ _ h).mono ?_; rintro e w' ⟨rfl, rfl⟩)
      go_ret
      exact ⟨congrArg (fun b => Ending.returned (.bool b)) FIN.out.symm, rfl⟩
  · have fin : bitI l i = false := by simp [bitI, hi]
    have FIN := Lib.hid fin
    clear fin
    go_enter Tryz.func95, Tryz.ntmps95
    go_wp2_with (go_at_call 83; refine (bitmap_Len _ _ _ _ h).mono ?_; rintro e w' ⟨rfl, rfl⟩)
    go_ret
    exact ⟨congrArg (fun b => Ending.returned (.bool b)) FIN.out.symm, rfl⟩

def turns (l : List Bool) (on : Bool) (i : Int) : Bool := decide (0 ≤ i ∧ i < (l.length : Nat)) && (bit l i.toNat != on)

set_option maxHeartbeats 400000 in
theorem bitmap_Set_out (p q s : Nat) (l : List Bool) (on : Bool) (i : Int) (w : World) (h : BM w p q l) (hs : w.cell? ⟨s, 0, none⟩ = some (.int .i64 i)) (hc : turns l on i = false) :
    Calls Tryz.prog 65 #[.pointer (some ⟨p, 0, none⟩), .bool on, .slice (some ⟨s, 0, none⟩) 1 1] w fun e w' =>
      e = .returned (.int .i64 0) ∧ w = w' := by
  by_cases hi : 0 ≤ i
  · by_cases hi2 : i < (l.length : Nat)
    · have hb : bitI l i = on := by
        have : bit l i.toNat = on := by
          simp only [turns, hi, hi2] at hc
          simpa using hc
        simp [bitI, hi, this]
      clear hc
      subst hb
      go_enter Tryz.func65, Tryz.ntmps65
      go_wp2
      refine wp_loop_rounds 2 ?_
      rw [rounds_succ]
      go_wp2_with (first | (go_at_call 83; refine (bitmap_Len _ _ _ _ h).mono ?_; rintro e w' ⟨rfl, rfl⟩) | (go_at_call 95; refine (bitmap_Get _ _ _ _ _ h).mono ?_; rintro e w' ⟨rfl, rfl⟩))
      rw [rounds_succ]
      go_wp2
      go_ret
      exact ⟨rfl, rfl⟩
    · clear hc
      go_enter Tryz.func65, Tryz.ntmps65
      go_wp2
      refine wp_loop_rounds 2 ?_
      rw [rounds_succ]
      go_wp2_with (first | (go_at_call 83; refine (bitmap_Len _ _ _ _ h).mono ?_; rintro e w' ⟨rfl, rfl⟩))
      rw [rounds_succ]
      go_wp2
      go_ret
      exact ⟨rfl, rfl⟩
  · clear hc
    go_enter Tryz.func65, Tryz.ntmps65
    go_wp2
    refine wp_loop_rounds 2 ?_
    rw [rounds_succ]
    go_wp2
    rw [rounds_succ]
    go_wp2
    go_ret
    exact ⟨rfl, rfl⟩

set_option maxHeartbeats 800000 in
theorem bitmap_Set_in (p q s : Nat) (l : List Bool) (on : Bool) (i : Int) (w : World) (h : BM w p q l) (hs : w.cell? ⟨s, 0, none⟩ = some (.int .i64 i)) (hc : turns l on i = true) :
    Calls Tryz.prog 65 #[.pointer (some ⟨p, 0, none⟩), .bool on, .slice (some ⟨s, 0, none⟩) 1 1] w fun e w' =>
      e = .returned (.int .i64 1) ∧ BM w' p q (setI l on i) ∧ Kept (fun x => x = q) w w' := by
  have hi : 0 ≤ i := by simp [turns] at hc; omega
  have hi2 : i < (l.length : Nat) := by simp [turns] at hc; omega
  have hb : (bitI l i == on) = false := by
    simp only [turns, hi, hi2] at hc
    simpa [bitI, hi] using hc
  have h0 := h.hp.cell 0
  have h1 := h.hp.cell 1
  have hn := h.le
  have hj : (i / 64).toNat < nw l := by unfold nw; omega
  have hx := h.hq.cell (i / 64).toNat
  rw [bwords_get _ _ hj] at hx
  have hlt : i / 64 < (nw l : Nat) := by omega
  have hm : nw l ≤ 1048576 := by unfold nw; omega
  have hfz := h.hq.frozen (i / 64).toNat
  clear hj hc
  go_enter Tryz.func65, Tryz.ntmps65
  go_wp2
  refine wp_loop_rounds 2 ?_
  rw [rounds_succ]
  go_wp2_with (first | (go_at_call 83; refine (bitmap_Len _ _ _ _ h).mono ?_; rintro e w' ⟨rfl, rfl⟩) | (go_at_call 95; refine (bitmap_Get _ _ _ _ _ h).mono ?_; rintro e w' ⟨rfl, rfl⟩))
  go_region
  go_wp2
  rw [rounds_succ]
  go_wp2
  go_ret
  exact ⟨rfl, (h.flip i on hi hi2 hb).drew, Kept.drew (Kept.setCell (Kept.refl _ _) _ _ (Or.inl rfl))⟩

theorem setI_same (l : List Bool) (on : Bool) (i : Int) (h : turns l on i = false) : setI l on i = l := by
  unfold setI
  split
  · rename_i hi
    have hb : bit l i.toNat = on := by
      simp only [turns, hi, and_self, decide_true, Bool.true_and] at h
      simpa using h
    apply List.ext_getElem?
    intro j
    by_cases e : i.toNat = j
    · subst e
      rw [List.getElem?_set_self (by omega)]
      rw [← hb]
      simp only [bit, List.getD_eq_getElem?_getD]
      rw [List.getElem?_eq_getElem (by omega)]; rfl
    · rw [List.getElem?_set_ne e]
  · rfl

/-- 1 for yes. -/
def one (b : Bool) : Int := if b then 1 else 0
/-- One bit is set: whether it turned. -/
theorem bitmap_Set (p q s : Nat) (l : List Bool) (on : Bool) (i : Int) (w : World) (h : BM w p q l) (hs : w.cell? ⟨s, 0, none⟩ = some (.int .i64 i)) :
    Calls Tryz.prog 65 #[.pointer (some ⟨p, 0, none⟩), .bool on, .slice (some ⟨s, 0, none⟩) 1 1] w fun e w' =>
      e = .returned (.int .i64 (one (turns l on i))) ∧ BM w' p q (setI l on i) ∧ Kept (fun x => x = q) w w' := by
  by_cases hc : turns l on i = true
  · rw [hc]
    exact bitmap_Set_in p q s l on i w h hs hc
  · have hc' : turns l on i = false := by simpa using hc
    rw [hc', setI_same l on i hc']
    exact (bitmap_Set_out p q s l on i w h hs hc').mono fun e w' ⟨he, hw⟩ => by subst hw; exact ⟨he, h, Kept.refl _ _⟩

theorem xor_ones (x : Nat) (h : x < 18446744073709551616) : 18446744073709551615 ^^^ x = 18446744073709551615 - x := by
  apply Nat.eq_of_testBit_eq
  intro i
  have e : 18446744073709551615 - x = 2 ^ 64 - (x + 1) := by omega
  rw [Nat.testBit_xor, e, Nat.testBit_two_pow_sub_succ (by simpa using h)]
  have e2 : (18446744073709551615 : Nat) = 2 ^ 64 - 1 := by decide
  rw [e2, Nat.testBit_two_pow_sub_one]
  by_cases hi : i < 64
  · simp [hi]
  · have : x.testBit i = false := Nat.testBit_lt_two_pow (Nat.lt_of_lt_of_le (by simpa using h) (Nat.pow_le_pow_right (by omega) (show 64 ≤ i by omega)))
    simp [hi, this]
theorem not_form (x : Nat) (h : x < 18446744073709551616) : bits BinOp.xor IntKind.u64 IntKind.u64.max (x : Int) = ((18446744073709551615 - x : Nat) : Int) := by
  have e : IntKind.u64.max = ((18446744073709551615 : Nat) : Int) := by decide
  rw [e, bits_xor_u64_nat _ _ (by decide) h, xor_ones x h]

/-- 64 bits of a map, those on that are so. -/
def wrd (l : List Bool) (on : Bool) (j : Nat) : Nat := if on then bword l j else 18446744073709551615 - bword l j
theorem wrd_lt (l : List Bool) (on : Bool) (j : Nat) : wrd l on j < 18446744073709551616 := by
  have := bword_lt l j
  unfold wrd; split <;> omega

theorem bitmap_word (p q : Nat) (l : List Bool) (on : Bool) (j : Nat) (w : World) (h : BM w p q l) (hj : j < nw l) :
    Calls Tryz.prog 84 #[.pointer (some ⟨p, 0, none⟩), .bool on, .int .i64 j] w fun e w' => e = .returned (.int .u64 (wrd l on j : Nat)) ∧ w = w' := by
  have h1 := h.hp.cell 1
  have hn := h.le
  have hx := h.hq.cell j
  rw [bwords_get _ _ hj] at hx
  have hm : nw l ≤ 1048576 := by unfold nw; omega
  have hlt := bword_lt l j
  cases on
  · go_enter Tryz.func84, Tryz.ntmps84
    go_wp2
    go_ret
    exact ⟨congrArg (fun z => Ending.returned (.int .u64 z)) (not_form _ hlt), rfl⟩
  · go_enter Tryz.func84, Tryz.ntmps84
    go_wp2
    go_ret
    exact ⟨rfl, rfl⟩
theorem testBit_wrd (l : List Bool) (on : Bool) (j i : Nat) (hi : i < 64) : (wrd l on j).testBit i = (bit l (64 * j + i) == on) := by
  unfold wrd
  cases on
  · have h := bword_lt l j
    have e : 18446744073709551615 - bword l j = 18446744073709551615 ^^^ bword l j := (xor_ones _ h).symm
    have e2 : (18446744073709551615 : Nat) = 2 ^ 64 - 1 := by decide
    rw [if_neg (by decide), e, Nat.testBit_xor, testBit_bword, e2, Nat.testBit_two_pow_sub_one]
    simp [hi]
  · rw [if_pos rfl, testBit_bword]; simp [hi]

/-- A word whose lowest bits are struck. -/
def low (x s : Nat) : Nat := x / 2 ^ s * 2 ^ s
theorem low_lt (x s : Nat) (h : x < 18446744073709551616) : low x s < 18446744073709551616 :=
  Nat.lt_of_le_of_lt (Nat.div_mul_le_self x (2 ^ s)) h
theorem testBit_low (x s i : Nat) : (low x s).testBit i = (decide (s ≤ i) && x.testBit i) := by
  unfold low
  rw [Nat.mul_comm, Nat.testBit_two_pow_mul]
  by_cases h : s ≤ i
  · rw [Nat.testBit_div_two_pow]
    simp [h]
  · simp [h]
theorem low_form (x s : Nat) (h : x < 18446744073709551616) : IntKind.u64.wrap ((x : Int) / 2 ^ s * 2 ^ s) = ((low x s : Nat) : Int) := by
  have := low_lt x s h
  rw [IntKind.wrap_u64]
  have e : ((x : Int) / 2 ^ s * 2 ^ s) = ((low x s : Nat) : Int) := by unfold low; simp
  rw [e]; omega

theorem ctz_le (x : Nat) : Lib.ctz 64 x ≤ 64 := by
  have key : ∀ f x, Lib.ctzFrom f x ≤ f := by
    intro f
    induction f with
    | zero => intro x; simp [Lib.ctzFrom]
    | succ f ih => intro x; unfold Lib.ctzFrom; split <;> have := ih (x / 2) <;> omega
  unfold Lib.ctz; split
  · omega
  · exact key 64 x

/-- What the round finds in a word. -/
theorem first_hit (l : List Bool) (on : Bool) (f k x s : Nat) (hs : s < 64) (hx : x = low (wrd l on k) s)
    (hlo : ∀ i, f ≤ i → i < 64 * k → bit l i ≠ on) (hfk : f ≤ 64 * k + s) (hbe : 64 * k + s ≤ f ∨ s = 0)
    (h0 : x ≠ 0) (hi : 64 * k + Lib.ctz 64 x < l.length) : firstFrom l on f = ((64 * k + Lib.ctz 64 x : Nat) : Int) := by
  have hxl : x < 18446744073709551616 := hx ▸ low_lt _ _ (wrd_lt _ _ _)
  obtain ⟨h1, h2, h3⟩ := ctz_spec x h0 hxl
  have e2 : (decide (s ≤ Lib.ctz 64 x) && (wrd l on k).testBit (Lib.ctz 64 x)) = true := by rw [← testBit_low, ← hx]; exact h2
  rw [testBit_wrd _ _ _ _ h1] at e2
  simp at e2
  refine firstFrom_some hi (by omega) e2.2 ?_
  intro j hj1 hj2
  by_cases hj : j < 64 * k
  · exact hlo j hj1 hj
  · have h4 := h3 (j - 64 * k) (by omega)
    rw [hx, testBit_low, testBit_wrd _ _ _ _ (by omega), show 64 * k + (j - 64 * k) = j by omega] at h4
    have hsj : s ≤ j - 64 * k := by omega
    simpa [hsj] using h4

theorem first_miss (l : List Bool) (on : Bool) (f k x s : Nat) (hs : s < 64) (hx : x = low (wrd l on k) s)
    (hlo : ∀ i, f ≤ i → i < 64 * k → bit l i ≠ on) (hbe : 64 * k + s ≤ f ∨ s = 0) (h : ¬ (x ≠ 0 ∧ 64 * k + Lib.ctz 64 x < l.length)) :
    ∀ i, f ≤ i → i < 64 * (k + 1) → i < l.length → bit l i ≠ on := by
  intro i hi1 hi2 hi3 hb
  by_cases hj : i < 64 * k
  · exact hlo i hi1 hj hb
  · have hs' : s ≤ i - 64 * k := by omega
    have ht : x.testBit (i - 64 * k) = true := by
      rw [hx, testBit_low, testBit_wrd _ _ _ _ (by omega), show 64 * k + (i - 64 * k) = i by omega, hb]; simp [hs']
    have h0 : x ≠ 0 := by intro e; rw [e] at ht; simp at ht
    have hxl : x < 18446744073709551616 := hx ▸ low_lt _ _ (wrd_lt _ _ _)
    obtain ⟨h1, h2, h3⟩ := ctz_spec x h0 hxl
    refine h ⟨h0, ?_⟩
    by_cases hle : Lib.ctz 64 x ≤ i - 64 * k
    · omega
    · have := h3 (i - 64 * k) (by omega)
      rw [ht] at this; cases this

set_option maxHeartbeats 1000000 in
theorem bitmap_First (p q : Nat) (l : List Bool) (on : Bool) (f : Nat) (w : World) (h : BM w p q l) (hg : Glob w) (hf : f ≤ 4611686018427387904) :
    Calls Tryz.prog 57 #[.pointer (some ⟨p, 0, none⟩), .bool on, .int .i64 f] w fun e w' => e = .returned (.int .i64 (firstFrom l on f)) ∧ w = w' := by
  have h0 := h.hp.cell 0
  have hn := h.le
  go_enter Tryz.func57, Tryz.ntmps57
  go_wp2
  go_loop [7, 8, 9] (fun s _ _ => ∃ k : Nat, k ≤ f / 64 + 16385 ∧ f / 64 ≤ k ∧ s = .int .i64 k ∧ ∀ i, f ≤ i → i < 64 * k → i < l.length → bit l i ≠ on) (fun s _ _ => f / 64 + 20000 - (intOf s).toNat)
  case atStart => exact ⟨f / 64, by omega, by omega, by simp, fun i _ _ => by omega⟩
  case round =>
    obtain ⟨k, hk0, hk, rfl, hlo⟩ := hrel
    have HLO := Lib.hid hlo
    clear hlo
    by_cases hlt : 64 * k < l.length
    · have hkn : k < nw l := by unfold nw; omega
      have hm : nw l ≤ 1048576 := by unfold nw; omega
      have hwl := wrd_lt l on k
      by_cases hkf : k = f / 64
      · have hd : ((k : Int) == (f : Int) / 64) = true := by rw [hkf]; simp
        obtain ⟨x, hx⟩ : ∃ x, x = low (wrd l on k) (f % 64) := ⟨_, rfl⟩
        have HW : Hid (IntKind.u64.wrap (↑(wrd l on k) / 2 ^ (f % 64) * 2 ^ (f % 64)) = ((x : Nat) : Int)) := by rw [hx]; exact low_form _ _ hwl
        have hxl : x < 18446744073709551616 := hx ▸ low_lt _ _ hwl
        have hcz : Lib.ctz 64 x ≤ 64 := ctz_le x
        have HX := Lib.hid hx
        have HKF := Lib.hid hkf
        clear hkf hx
        have HIT : Hid (x ≠ 0 ∧ 64 * k + Lib.ctz 64 x < l.length → firstFrom l on f = ((64 * k + Lib.ctz 64 x : Nat) : Int)) := fun hh =>
          first_hit l on f k x (f % 64) (Nat.mod_lt _ (by omega)) HX.out (fun i a b => HLO.out i a b (by omega)) (by have := HKF.out; omega) (Or.inl (by have := HKF.out; omega)) hh.1 hh.2
        have MISS : Hid (¬ (x ≠ 0 ∧ 64 * k + Lib.ctz 64 x < l.length) → ∀ i, f ≤ i → i < 64 * (k + 1) → i < l.length → bit l i ≠ on) := fun hh i a b c =>
          first_miss l on f k x (f % 64) (Nat.mod_lt _ (by omega)) HX.out (fun i a b => HLO.out i a b (by omega)) (Or.inl (by have := HKF.out; omega)) hh i a b c
        go_wp2_with (first | (go_at_call 83; refine (bitmap_Len _ _ _ _ h).mono ?_; rintro e w' ⟨rfl, rfl⟩) | (go_at_call 84; refine (bitmap_word _ _ _ _ _ _ h hkn).mono ?_; rintro e w' ⟨rfl, rfl⟩) | (go_at_call 85; rw [HW.out]; refine (tz64 _ hxl _ hg).mono ?_; rintro e w' ⟨rfl, rfl⟩))
        · go_round
          case rel =>
            have hh : x = 0 := by assumption
            exact ⟨k + 1, by omega, by omega, by go_num, MISS.out (fun e => e.1 hh)⟩
          case measure => simp [intOf]; omega
        · go_ret
          refine ⟨?_, rfl⟩
          have hh : (((x : Nat) : Int) != 0) = true ∧ (k : Int) * 64 + (Lib.ctz 64 x : Nat) < (l.length : Nat) := by assumption
          rw [HIT.out ⟨by have := hh.1; simp at this; omega, by omega⟩]
          exact congrArg (fun z => Ending.returned (.int .i64 z)) (by omega)
        · go_round
          case rel =>
            have hh : (((x : Nat) : Int) != 0) = false ∨ ((l.length : Nat) : Int) ≤ (k : Int) * 64 + (Lib.ctz 64 x : Nat) := by assumption
            exact ⟨k + 1, by omega, by omega, by go_num, MISS.out (fun e => hh.elim (fun g => e.1 (by simp at g; omega)) (fun g => by omega))⟩
          case measure => simp [intOf]; omega
      · have hd : ((k : Int) == (f : Int) / 64) = false := by simp; omega
        have hcz : Lib.ctz 64 (wrd l on k) ≤ 64 := ctz_le _
        have e0 : wrd l on k = low (wrd l on k) 0 := by simp [low]
        have HIT : Hid (wrd l on k ≠ 0 ∧ 64 * k + Lib.ctz 64 (wrd l on k) < l.length → firstFrom l on f = ((64 * k + Lib.ctz 64 (wrd l on k) : Nat) : Int)) := fun hh =>
          first_hit l on f k _ 0 (by omega) e0 (fun i a b => HLO.out i a b (by omega)) (by omega) (Or.inr rfl) hh.1 hh.2
        have MISS : Hid (¬ (wrd l on k ≠ 0 ∧ 64 * k + Lib.ctz 64 (wrd l on k) < l.length) → ∀ i, f ≤ i → i < 64 * (k + 1) → i < l.length → bit l i ≠ on) := fun hh i a b c =>
          first_miss l on f k _ 0 (by omega) e0 (fun i a b => HLO.out i a b (by omega)) (Or.inr rfl) hh i a b c
        clear e0 hkf
        go_wp2_with (first | (go_at_call 83; refine (bitmap_Len _ _ _ _ h).mono ?_; rintro e w' ⟨rfl, rfl⟩) | (go_at_call 84; refine (bitmap_word _ _ _ _ _ _ h hkn).mono ?_; rintro e w' ⟨rfl, rfl⟩) | (go_at_call 85; refine (tz64 _ hwl _ hg).mono ?_; rintro e w' ⟨rfl, rfl⟩))
        · go_round
          case rel =>
            have hh : wrd l on k = 0 := by assumption
            exact ⟨k + 1, by omega, by omega, by go_num, MISS.out (fun e => e.1 hh)⟩
          case measure => simp [intOf]; omega
        · go_ret
          refine ⟨?_, rfl⟩
          have hh : (((wrd l on k : Nat) : Int) != 0) = true ∧ (k : Int) * 64 + (Lib.ctz 64 (wrd l on k) : Nat) < (l.length : Nat) := by assumption
          rw [HIT.out ⟨by have := hh.1; simp at this; omega, by omega⟩]
          exact congrArg (fun z => Ending.returned (.int .i64 z)) (by omega)
        · go_round
          case rel =>
            have hh : (((wrd l on k : Nat) : Int) != 0) = false ∨ ((l.length : Nat) : Int) ≤ (k : Int) * 64 + (Lib.ctz 64 (wrd l on k) : Nat) := by assumption
            exact ⟨k + 1, by omega, by omega, by go_num, MISS.out (fun e => hh.elim (fun g => e.1 (by simp at g; omega)) (fun g => by omega))⟩
          case measure => simp [intOf]; omega
    · go_wp2_with (go_at_call 83; refine (bitmap_Len _ _ _ _ h).mono ?_; rintro e w' ⟨rfl, rfl⟩)
      go_ret
      refine ⟨?_, rfl⟩
      rw [firstFrom_none (fun j a b => HLO.out j a (by omega) b)]
      rfl
end Go.Proofs.YtbkliamhignmfaaGreatDoor
