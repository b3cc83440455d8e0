/- Layer 3, the plain side: blocks by orders, as maps of bits. No program. -/
import Derived.Test.YtbkliamhignmfaaGreatDoorBitmap
namespace Go.Proofs.YtbkliamhignmfaaGreatDoor

def upd (f : Nat → List Bool) (k : Nat) (l : List Bool) : Nat → List Bool := fun j => if j = k then l else f j
theorem upd_self (f : Nat → List Bool) (k : Nat) (l : List Bool) : upd f k l k = l := if_pos rfl
theorem upd_ne (f : Nat → List Bool) {k j : Nat} (l : List Bool) (h : j ≠ k) : upd f k l j = f j := if_neg h

/-- An allocator: the greatest order; of each order which blocks are free; where used blocks of the order 0 begin. -/
structure BS where
  top : Nat
  free : Nat → List Bool
  used : List Int
structure BS.ok (s : BS) : Prop where
  t0 : 6 ≤ s.top
  t1 : s.top ≤ 20
  len : ∀ k, k ≤ s.top → (s.free k).length = 2 ^ (s.top - k)
  us : ∀ a ∈ s.used, 0 ≤ a ∧ a < 1024 * 2 ^ s.top

/-- The least order that has a free block. -/
def firstK (s : BS) : Option Nat := (List.range (s.top + 1)).find? fun k => firstFrom (s.free k) true 0 != -1
theorem firstK_none {s : BS} (h : ∀ k, k ≤ s.top → firstFrom (s.free k) true 0 = -1) : firstK s = none := by
  unfold firstK
  rw [List.find?_eq_none]
  intro k hk
  have := h k (by have := List.mem_range.1 hk; omega)
  simp [this]
theorem firstK_some {s : BS} {k : Nat} (hk : k ≤ s.top) (h1 : firstFrom (s.free k) true 0 ≠ -1) (h : ∀ j, j < k → firstFrom (s.free j) true 0 = -1) : firstK s = some k := by
  unfold firstK
  rw [List.find?_range_eq_some]
  exact ⟨by simpa using h1, List.mem_range.2 (by omega), fun j hj => by simp [h j hj]⟩

/-- A block of the order k is split down to the order 0. -/
def split0 (f : Nat → List Bool) : Nat → Nat → (Nat → List Bool) × Nat
  | 0, i => (f, i)
  | k + 1, i => split0 (upd f k ((f k).set (2 * i + 1) true)) k (2 * i)
/-- An address is used. -/
def addU (l : List Int) (a : Int) : List Int := if a ∈ l then l else l ++ [a]
/-- Behind the taking of a block of the order 0: its number, the allocator. -/
def BS.take (s : BS) : Option (Nat × BS) :=
  match firstK s with
  | none => none
  | some k =>
    let i := (firstFrom (s.free k) true 0).toNat
    let r := split0 (upd s.free k ((s.free k).set i false)) k i
    some (r.2, { s with free := r.1, used := addU s.used ((1024 * r.2 : Nat) : Int) })

/-- A block comes back, and is joined with its buddies. n: how many orders are above. -/
def join0 (f : Nat → List Bool) : Nat → Nat → Nat → (Nat → List Bool)
  | 0, k, i => upd f k ((f k).set i true)
  | n + 1, k, i => if bit (f k) (i ^^^ 1) = true then join0 (upd f k ((f k).set (i ^^^ 1) false)) n (k + 1) (i / 2) else upd f k ((f k).set i true)
/-- Behind the giving back of the block at an address. -/
def BS.give (s : BS) (at_ : Int) : Int × BS :=
  if at_ ∈ s.used then (0, { s with free := join0 s.free s.top 0 (at_.toNat / 1024), used := s.used.erase at_ }) else (6, s)

theorem upd_len (s : BS) (h : s.ok) (k i : Nat) (b : Bool) : ∀ j, j ≤ s.top → (upd s.free k ((s.free k).set i b) j).length = 2 ^ (s.top - j) := by
  intro j hj
  by_cases e : j = k
  · subst e; rw [upd_self, List.length_set]; exact h.len j hj
  · rw [upd_ne _ _ e]; exact h.len j hj
theorem BS.ok.upd {s : BS} (h : s.ok) (k i : Nat) (b : Bool) : BS.ok { s with free := upd s.free k ((s.free k).set i b) } := ⟨h.t0, h.t1, upd_len s h k i b, h.us⟩
theorem split0_len (top : Nat) : ∀ (k : Nat) (f : Nat → List Bool) (i : Nat), (∀ j, j ≤ top → (f j).length = 2 ^ (top - j)) → ∀ j, j ≤ top → ((split0 f k i).1 j).length = 2 ^ (top - j)
  | 0, f, i, h => h
  | k + 1, f, i, h => by
    refine split0_len top k _ _ (fun j hj => ?_)
    by_cases e : j = k
    · subst e; rw [upd_self, List.length_set]; exact h j hj
    · rw [upd_ne _ _ e]; exact h j hj
theorem split0_idx : ∀ (k : Nat) (f : Nat → List Bool) (i : Nat), (split0 f k i).2 = 2 ^ k * i
  | 0, f, i => by simp [split0]
  | k + 1, f, i => by
    show (split0 _ k (2 * i)).2 = _
    rw [split0_idx k, Nat.pow_succ, Nat.mul_assoc]
theorem join0_len (top : Nat) : ∀ (n k : Nat) (f : Nat → List Bool) (i : Nat), (∀ j, j ≤ top → (f j).length = 2 ^ (top - j)) → ∀ j, j ≤ top → ((join0 f n k i) j).length = 2 ^ (top - j)
  | 0, k, f, i, h => by
    intro j hj
    show (Go.Proofs.YtbkliamhignmfaaGreatDoor.upd f k ((f k).set i true) j).length = _
    by_cases e : j = k
    · subst e; rw [upd_self, List.length_set]; exact h j hj
    · rw [upd_ne _ _ e]; exact h j hj
  | n + 1, k, f, i, h => by
    intro j hj
    unfold join0
    split
    · refine join0_len top n (k + 1) _ _ (fun j hj => ?_) j hj
      by_cases e : j = k
      · subst e; rw [upd_self, List.length_set]; exact h j hj
      · rw [upd_ne _ _ e]; exact h j hj
    · by_cases e : j = k
      · subst e; rw [upd_self, List.length_set]; exact h j hj
      · rw [upd_ne _ _ e]; exact h j hj
end Go.Proofs.YtbkliamhignmfaaGreatDoor
