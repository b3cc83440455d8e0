/- Layer 4: finding a slab: the walks over cmp.Compare and slices.BinarySearchFunc at pages. -/
import Derived.Test.YtbkliamhignmfaaGreatDoorProg
import Derived.Test.YtbkliamhignmfaaGreatDoorBase
import Derived.LoopTactic
namespace Go.Proofs.YtbkliamhignmfaaGreatDoor
open Go.RowKit

/-- -1, 0, 1. -/
def cmpI (x y : Int) : Int := if x < y then -1 else if y < x then 1 else 0
theorem cmpI_lt (x y : Int) : decide (cmpI x y < 0) = decide (x < y) := by
  unfold cmpI; by_cases h : x < y
  · simp [h]
  · by_cases h2 : y < x <;> simp [h, h2]
theorem cmpI_eq (x y : Int) : (cmpI x y == 0) = decide (x = y) := by
  unfold cmpI; by_cases h : x < y
  · have : ¬ x = y := by omega
    simp [h, this]
  · by_cases h2 : y < x
    · have : ¬ x = y := by omega
      simp [h, h2, this]
    · have : x = y := by omega
      simp [this]

theorem cmp_Compare (x y : Int) (w : World) :
    Calls Tryz.prog 88 #[.int .i64 x, .int .i64 y] w fun e w' => e = .returned (.int .i64 (cmpI x y)) ∧ w = w' := by
  have hx : (x != x) = false := by simp
  have hy : (y != y) = false := by simp
  by_cases h1 : x < y
  · rw [show cmpI x y = -1 by unfold cmpI; rw [if_pos h1]]
    go_enter Tryz.func88, Tryz.ntmps88
    go_wp2
    go_ret
    exact ⟨rfl, rfl⟩
  · by_cases h2 : y < x
    · rw [show cmpI x y = 1 by unfold cmpI; rw [if_neg h1, if_pos h2]]
      go_enter Tryz.func88, Tryz.ntmps88
      go_wp2
      go_ret
      exact ⟨rfl, rfl⟩
    · rw [show cmpI x y = 0 by unfold cmpI; rw [if_neg h1, if_neg h2]]
      go_enter Tryz.func88, Tryz.ntmps88
      go_wp2
      go_ret
      exact ⟨rfl, rfl⟩

/-- A slab: where it begins, which of its places are used. -/
structure Pg where
  at_ : Nat
  bits : List Bool
  deriving Inhabited

/-- The pages lie in a slice's cells. -/
def PgAt (w : World) (a : Option Addr) (bp : Nat → Nat) (l : List Pg) : Prop :=
  ∀ (i : Nat) (h : i < l.length), ∃ g, a = some ⟨g, 0, none⟩ ∧ g < w.heap.size ∧ w.cell? ⟨g, i * 2, none⟩ = some (.pointer (some ⟨bp l[i].at_, 0, none⟩)) ∧ w.cell? ⟨g, i * 2 + 1, none⟩ = some (.int .i64 (l[i].at_ : Nat))
theorem PgAt.keptNo {w w' : World} {a : Option Addr} {bp : Nat → Nat} {l : List Pg} (h : PgAt w a bp l) (k : Kept NoB w w') : PgAt w' a bp l := fun i hi => by
  obtain ⟨g, h1, h2, h3, h4⟩ := h i hi
  exact ⟨g, h1, Nat.lt_of_lt_of_le h2 k.size, (World.cell?_of_block (w := w) (k.block g h2 (fun e => e))).trans h3, (World.cell?_of_block (w := w) (k.block g h2 (fun e => e))).trans h4⟩

theorem find1 (p : Value) (x a : Int) (w : World) :
    Calls Tryz.prog 97 #[.agg #[p, .int .i64 x], .int .i64 a] w fun e w' => e = .returned (.int .i64 (cmpI x a)) ∧ w.alloc (.cells #[p, .int .i64 x] 132) = w' := by
  have hc := cmp_Compare x a
  have HC := Lib.hid hc
  clear hc
  go_enter Tryz.func97, Tryz.ntmps97
  go_wp2_with (go_at_call 88; refine (HC.out _).mono ?_; rintro e w' ⟨rfl, rfl⟩)
  go_ret
  exact ⟨rfl, rfl⟩

/-- How many pages lie ahead of an address. -/
def lowI (l : List Pg) (a : Int) : Nat := (l.takeWhile fun p => decide ((p.at_ : Int) < a)).length
def hasAt (l : List Pg) (a : Int) : Bool := l.any fun p => decide ((p.at_ : Int) = a)
def rising (l : List Pg) : Prop := l.Pairwise fun p q => p.at_ < q.at_

theorem lowI_eq (l : List Pg) (a : Int) (i : Nat) (hi : i ≤ l.length) (h1 : ∀ j (h : j < l.length), j < i → (l[j].at_ : Int) < a) (h2 : ∀ j (h : j < l.length), i ≤ j → a ≤ l[j].at_) : lowI l a = i := by
  induction l generalizing i with
  | nil => simp at hi; subst hi; rfl
  | cons p t ih =>
    unfold lowI
    cases i with
    | zero =>
      have := h2 0 (by simp) (Nat.zero_le _)
      simp at this
      rw [List.takeWhile_cons_of_neg (by simp; omega)]
      rfl
    | succ i =>
      have := h1 0 (by simp) (by omega)
      simp at this
      rw [List.takeWhile_cons_of_pos (by simpa using this), List.length_cons]
      congr 1
      refine ih i (by simpa using hi) (fun j hj hji => ?_) (fun j hj hij => ?_)
      · have := h1 (j + 1) (by simpa using hj) (by omega)
        simpa using this
      · have := h2 (j + 1) (by simpa using hj) (by omega)
        simpa using this

theorem rising_get {l : List Pg} (h : rising l) {i j : Nat} (hj : j < l.length) (hij : i < j) : (l[i]'(by omega)).at_ < l[j].at_ :=
  List.pairwise_iff_getElem.1 h i j (by omega) hj hij

theorem hasAt_low {l : List Pg} (hr : rising l) (a : Int) (i : Nat) (hi : i ≤ l.length) (h1 : ∀ j (h : j < l.length), j < i → (l[j].at_ : Int) < a) (h2 : ∀ j (h : j < l.length), i ≤ j → a ≤ l[j].at_) :
    hasAt l a = if h : i < l.length then decide ((l[i].at_ : Int) = a) else false := by
  unfold hasAt
  rw [Bool.eq_iff_iff, List.any_eq_true]
  constructor
  · rintro ⟨p, hp, he⟩
    obtain ⟨j, hj, rfl⟩ := List.getElem_of_mem hp
    have he' : (l[j].at_ : Int) = a := by simpa using he
    have hji : ¬ j < i := fun e => by have := h1 j hj e; omega
    have hij : i < l.length := by omega
    rw [dif_pos hij]
    by_cases e : i = j
    · subst e; simpa using he'
    · have := rising_get hr hj (show i < j by omega)
      have := h2 i hij (Nat.le_refl _)
      omega
  · intro h
    split at h
    · rename_i hlt
      exact ⟨l[i], List.getElem_mem _, h⟩
    · cases h

set_option maxRecDepth 100000 in
set_option maxHeartbeats 2000000 in
theorem slab_bsearch (s : Option Addr) (c : Nat) (bp : Nat → Nat) (l : List Pg) (a : Int) (w : World) (h : PgAt w s bp l) (hr : rising l) (hl : l.length ≤ 1099511627776) :
    Calls Tryz.prog 96 #[.slice s l.length c, .int .i64 a, .func (.func 97) #[] #[]] w fun e w' =>
      e = .returned (.tuple #[.int .i64 (lowI l a : Nat), .bool (hasAt l a)]) ∧ Kept NoB w w' := by
  have H := Lib.hid h
  have HF := Lib.hid (fun p x w => find1 p x a w)
  clear h
  go_enter Tryz.func96, Tryz.ntmps96
  go_wp2
  go_loopw [9, 10, 11] (fun x y _ wr => ∃ (i j : Nat), i ≤ j ∧ j ≤ l.length ∧ x = .int .i64 i ∧ y = .int .i64 j ∧ Hid (∀ k (h : k < l.length), k < i → (l[k].at_ : Int) < a) ∧ Hid (∀ k (h : k < l.length), j ≤ k → a ≤ l[k].at_) ∧ Kept NoB w wr) (fun x y _ _ => (intOf y - intOf x).toNat)
  case atStart => exact ⟨0, l.length, Nat.zero_le _, Nat.le_refl _, rfl, rfl, fun k _ hk => by omega, fun k h1 h2 => by omega, Kept.refl _ _⟩
  case round =>
    obtain ⟨i, j, hij, hj, rfl, rfl, h1, h2, hK⟩ := hrel
    by_cases hlt : i < j
    · have hm1 : i ≤ (i + j) / 2 := by omega
      have hm2 : (i + j) / 2 < j := by omega
      have hm3 : (i + j) / 2 < l.length := by omega
      obtain ⟨g, e1, e2, c1, c2⟩ := (H.out.keptNo hK) ((i + j) / 2) hm3
      subst e1
      obtain ⟨x, hx⟩ : ∃ x : Nat, x = l[(i + j) / 2].at_ := ⟨_, rfl⟩
      obtain ⟨y, hy⟩ : ∃ y : Nat, y = bp l[(i + j) / 2].at_ := ⟨_, rfl⟩
      rw [← hx] at c2
      rw [← hy] at c1
      have HX := Lib.hid hx
      clear hx hy
      by_cases hxa : (x : Int) < a
      · have hd : decide (cmpI (x : Int) a < 0) = true := by rw [cmpI_lt]; simp [hxa]
        go_wp2_with (go_at_call 97; refine (HF.out _ _ _).mono ?_; rintro e w' ⟨rfl, rfl⟩)
        go_roundw
        case rel =>
          refine ⟨(i + j) / 2 + 1, j, by omega, hj, by go_num, rfl, ?_, h2, Kept.alloc hK _⟩
          intro k hk hki
          by_cases e : k = (i + j) / 2
          · subst e; rw [← HX.out]; exact hxa
          · have := rising_get hr hm3 (show k < (i + j) / 2 by omega)
            have := HX.out; omega
        case measure => simp [intOf]; omega
      · have hd : decide (cmpI (x : Int) a < 0) = false := by rw [cmpI_lt]; simp [hxa]
        go_wp2_with (go_at_call 97; refine (HF.out _ _ _).mono ?_; rintro e w' ⟨rfl, rfl⟩)
        go_roundw
        case rel =>
          refine ⟨i, (i + j) / 2, by omega, by omega, rfl, by go_num, h1, ?_, Kept.alloc hK _⟩
          intro k hk hki
          by_cases e : k = (i + j) / 2
          · subst e; have := HX.out; omega
          · have := rising_get hr hk (show (i + j) / 2 < k by omega)
            have := HX.out; omega
        case measure => simp [intOf]; omega
    · obtain rfl : i = j := by omega
      have HL := Lib.hid (lowI_eq l a i hj h1.out h2.out)
      have HH := Lib.hid (hasAt_low hr a i hj h1.out h2.out)
      by_cases hil : i < l.length
      · obtain ⟨g, e1, e2, c1, c2⟩ := (H.out.keptNo hK) i hil
        subst e1
        obtain ⟨x, hx⟩ : ∃ x : Nat, x = l[i].at_ := ⟨_, rfl⟩
        obtain ⟨y, hy⟩ : ∃ y : Nat, y = bp l[i].at_ := ⟨_, rfl⟩
        rw [← hx] at c2
        rw [← hy] at c1
        have hh : (cmpI (x : Int) a == 0) = hasAt l a := by rw [cmpI_eq, HH.out, dif_pos hil, hx]
        have HHH := Lib.hid hh
        clear hx hy hh
        go_wp2_with (go_at_call 97; refine (HF.out _ _ _).mono ?_; rintro e w' ⟨rfl, rfl⟩)
        go_ret2
        rw [HL.out, ← HHH.out]
        exact ⟨rfl, Kept.alloc hK _⟩
      · have hh : hasAt l a = false := by rw [HH.out, dif_neg hil]
        have HHH := Lib.hid hh
        clear hh
        go_wp2
        go_ret2
        rw [HL.out, HHH.out]
        exact ⟨rfl, hK⟩
end Go.Proofs.YtbkliamhignmfaaGreatDoor
