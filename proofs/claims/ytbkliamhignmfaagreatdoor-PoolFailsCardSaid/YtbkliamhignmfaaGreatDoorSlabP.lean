/- Layer 4: the used places, as lists. No program. -/
import Derived.Test.YtbkliamhignmfaaGreatDoorSlabG
namespace Go.Proofs.YtbkliamhignmfaaGreatDoor
open Go.RowKit

/-- The set bits from a place on. -/
def usedFrom (l : List Bool) (f : Nat) : List Nat := (List.range l.length).filter fun i => decide (f ≤ i) && bit l i

theorem range_filter_ge (n f : Nat) (p : Nat → Bool) : (List.range n).filter (fun i => decide (f ≤ i) && p i) = ((List.range' f (n - f)).filter p) := by
  induction n with
  | zero => simp
  | succ n ih =>
    rw [List.range_succ, List.filter_append, ih]
    by_cases h : f ≤ n
    · have e : n + 1 - f = (n - f) + 1 := by omega
      rw [e, List.range'_concat, List.filter_append]
      congr 1
      have : f + (n - f) = n := by omega
      simp only [this, Nat.one_mul]
      rw [List.filter_cons, List.filter_cons]
      simp [h]
    · have e : n + 1 - f = 0 := by omega
      have e2 : n - f = 0 := by omega
      rw [e, e2]
      simp; intro hf; omega

theorem usedFrom_none {l : List Bool} {f : Nat} (h : ∀ j, f ≤ j → j < l.length → bit l j ≠ true) : usedFrom l f = [] := by
  unfold usedFrom
  rw [List.filter_eq_nil_iff]
  intro i hi
  have hi' : i < l.length := by simpa using hi
  by_cases hf : f ≤ i
  · have := h i hf hi'; simp [this]
  · simp [hf]
theorem usedFrom_cons {l : List Bool} {f i : Nat} (hi : i < l.length) (hf : f ≤ i) (ho : bit l i = true) (hmin : ∀ j, f ≤ j → j < i → bit l j ≠ true) : usedFrom l f = i :: usedFrom l (i + 1) := by
  unfold usedFrom
  rw [range_filter_ge, range_filter_ge]
  have e : l.length - f = (i - f) + (1 + (l.length - (i + 1))) := by omega
  rw [e, ← List.range'_append, List.filter_append]
  have e1 : (List.range' f (i - f)).filter (fun j => bit l j) = [] := by
    rw [List.filter_eq_nil_iff]
    intro j hj
    rw [List.mem_range'_1] at hj
    exact hmin j hj.1 (by omega)
  rw [e1, List.nil_append, Nat.one_mul, show f + (i - f) = i by omega, Nat.add_comm 1, List.range'_succ, List.filter_cons, if_pos ho]

def pagePl (size : Nat) (p : Pg) (f : Nat) : List Int := (usedFrom p.bits f).map fun i => ((p.at_ + 64 + i * size : Nat) : Int)
def SS.places (s : SS) : List Int := s.l.flatMap fun p => pagePl s.size p 0
end Go.Proofs.YtbkliamhignmfaaGreatDoor
