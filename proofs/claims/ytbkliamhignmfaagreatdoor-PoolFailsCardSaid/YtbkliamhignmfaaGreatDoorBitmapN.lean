/- Layer 2: making a map of bits; how many are on. -/
import Derived.Test.YtbkliamhignmfaaGreatDoorBitmap
import Derived.Test.YtbkliamhignmfaaGreatDoorOnes
namespace Go.Proofs.YtbkliamhignmfaaGreatDoor
open Go.RowKit

theorem infoU64 : (Tryz.prog.info? 45).map (fun i => (i.zero, i.size, i.bytes)) = some (some (.int .u64 0), 1, 8) := by kernel_rfl

theorem madeCells_list (z : Value) (n : Nat) : madeCells #[z] n = (List.replicate n z).toArray := by
  apply Array.ext'
  rw [toList_madeCells_one]

theorem bit_replicate (n i : Nat) : bit (List.replicate n false) i = false := by
  simp only [bit, List.getD_eq_getElem?_getD, List.getElem?_replicate]
  split <;> rfl
theorem bword_replicate (n j : Nat) : bword (List.replicate n false) j = 0 := by
  apply Nat.eq_of_testBit_eq
  intro i
  rw [testBit_bword, bit_replicate]; simp
theorem bwords_replicate (n : Nat) : bwords (List.replicate n false) = List.replicate ((n + 63) / 64) (.int .u64 0) := by
  unfold bwords nw
  rw [List.length_replicate, List.eq_replicate_iff]
  refine ⟨by simp, ?_⟩
  intro b hb
  obtain ⟨j, _, rfl⟩ := List.mem_map.1 hb
  rw [bword_replicate]; rfl

set_option maxRecDepth 100000 in
theorem bitmap_New (n : Nat) (w : World) (h1 : 1 ≤ n) (h2 : n ≤ 1048576) :
    Calls Tryz.prog 64 #[.int .i64 n] w fun e w' => ∃ p q, e = .returned (.pointer (some ⟨p, 0, none⟩)) ∧ BM w' p q (List.replicate n false) ∧ Kept NoB w w' ∧ w.heap.size ≤ p ∧ w.heap.size ≤ q := by
  obtain ⟨i0, hi, hz0, hz1, hz2⟩ := info_parts infoU64
  obtain ⟨m, em⟩ : ∃ m, m = (n + 63) / 64 := ⟨_, rfl⟩
  have hm : (((n : Int) + 64 - 1) / 64).toNat = m := by omega
  have hmk : ∀ w : World, (Instr.makeSlice 121 (.int .i64 (((n : Int) + 64 - 1) / 64)) (.int .i64 (((n : Int) + 64 - 1) / 64))).run Tryz.prog w = .ok (.slice (some ⟨w.heap.size, 0, none⟩) m m) (w.alloc (.cells (List.replicate m (.int .u64 0)).toArray 45 (0, 0))) := fun w => by
    have := run_make (P := Tryz.prog) w 121 45 i0 (.int .u64 0) Tryz.underlying121 hi hz0 .i64 .i64 (((n : Int) + 64 - 1) / 64) (((n : Int) + 64 - 1) / 64) (by omega) (Int.le_refl _) (by rw [hz2]; omega) (by omega)
    rw [hm, hz1, Nat.mul_one] at this
    rw [this]
    show Result.ok _ (w.alloc (.cells (madeCells #[Value.int .u64 0] m) 45)) = _
    rw [madeCells_list]
  have EM := Lib.hid em
  clear hm em hz0 hz1 hz2 hi
  go_enter Tryz.func64, Tryz.ntmps64
  go_wp2
  go_ret
  refine ⟨w.heap.size + 1, w.heap.size, rfl, ⟨by simp; omega, by simpa using h2, ?_, ?_⟩, Kept.alloc (Kept.alloc (Kept.refl _ _) _) _, by omega, by omega⟩
  · have := Blk.new (w.alloc (.cells (List.replicate m (.int .u64 0)).toArray 45 (0, 0))) [.int .i64 (n : Nat), .slice (some ⟨w.heap.size, 0, none⟩) m m] 148
    have e : nw (List.replicate n false) = m := by rw [EM.out]; simp [nw]
    rw [e, List.length_replicate]
    rw [World.size_alloc] at this
    exact this
  · rw [bwords_replicate, ← EM.out]
    exact (Blk.new w _ _).alloc _

theorem sum_zero : ∀ (l : List Nat), l.sum = 0 ↔ ∀ x ∈ l, x = 0
  | [] => by simp
  | a :: t => by
    have := sum_zero t
    simp only [List.sum_cons, List.mem_cons, forall_eq_or_imp, ← this]
    omega

/-- How many are on. -/
def cnt (l : List Bool) : Nat := ((List.range (nw l)).map fun j => popc 64 (bword l j)).sum
theorem cnt_zero (l : List Bool) : cnt l = 0 ↔ ∀ i, bit l i = false := by
  unfold cnt
  rw [sum_zero]
  constructor
  · intro h i
    by_cases hi : i < l.length
    · have := h (popc 64 (bword l (i / 64))) (List.mem_map.2 ⟨i / 64, by simp [nw]; omega, rfl⟩)
      rw [popc_zero 64 _ (by have := bword_lt l (i / 64); simpa using this)] at this
      rw [← testBit_bword_at, this]; simp
    · exact bit_past l i (by omega)
  · intro h x hx
    obtain ⟨j, _, rfl⟩ := List.mem_map.1 hx
    rw [popc_zero 64 _ (by have := bword_lt l j; simpa using this)]
    apply Nat.eq_of_testBit_eq
    intro i
    rw [testBit_bword, h]; simp
theorem cnt_le (l : List Bool) : cnt l ≤ 64 * nw l := by
  unfold cnt
  have : ∀ n, ((List.range n).map fun j => popc 64 (bword l j)).sum ≤ 64 * n := by
    intro n
    induction n with
    | zero => simp
    | succ n ih =>
      rw [List.range_succ, List.map_append, List.sum_append]
      have := popc_le 64 (bword l n)
      simp; omega
  exact this _
def cntTo (l : List Bool) (k : Nat) : Nat := ((List.range k).map fun j => popc 64 (bword l j)).sum
theorem cntTo_succ (l : List Bool) (k : Nat) : cntTo l (k + 1) = cntTo l k + popc 64 (bword l k) := by
  unfold cntTo
  rw [List.range_succ, List.map_append, List.sum_append]; simp
theorem cntTo_le (l : List Bool) (k : Nat) : cntTo l k ≤ 64 * k := by
  induction k with
  | zero => simp [cntTo]
  | succ k ih => rw [cntTo_succ]; have := popc_le 64 (bword l k); omega

set_option maxRecDepth 100000 in
set_option maxHeartbeats 800000 in
theorem bitmap_Count (p q : Nat) (l : List Bool) (w : World) (h : BM w p q l) :
    Calls Tryz.prog 72 #[.pointer (some ⟨p, 0, none⟩)] w fun e w' => e = .returned (.int .i64 (cnt l : Nat)) ∧ w = w' := by
  have h1 := h.hp.cell 1
  have hn := h.le
  have hm : nw l ≤ 1048576 := by unfold nw; omega
  have e1 : 64 * nw l ≤ l.length + 63 := by unfold nw; omega
  have e2 : l.length < 64 * nw l + 1 := by unfold nw; omega
  have FIN : Hid (∀ k, k ≤ nw l → ¬ k < nw l → cntTo l k = cnt l) := fun k a b => by rw [show k = nw l by omega]; rfl
  go_enter Tryz.func72, Tryz.ntmps72
  go_wp2_with (go_at_call 83; refine (bitmap_Len _ _ _ _ h).mono ?_; rintro e w' ⟨rfl, rfl⟩)
  go_loop [3, 4, 10] (fun s _ i => ∃ k : Nat, k ≤ nw l ∧ i = .int .i64 k ∧ s = .int .i64 (cntTo l k : Nat)) (fun _ _ i => nw l - (intOf i).toNat)
  case atStart => exact ⟨0, by omega, rfl, rfl⟩
  case round =>
    obtain ⟨k, hk, rfl, rfl⟩ := hrel
    have hb := cntTo_le l k
    have hp := popc_le 64 (bword l k)
    by_cases hlt : k < nw l
    · have hx := h.hq.cell k
      rw [bwords_get _ _ hlt] at hx
      go_wp2_with (go_at_call 93; refine (ones64_pop _ _ (bword_lt _ _)).mono ?_; rintro e w' ⟨rfl, rfl⟩)
      go_round
      case rel => exact ⟨k + 1, by omega, by go_num, by rw [cntTo_succ]; go_num⟩
      case measure => simp [intOf]; omega
    · have e := FIN.out k hk hlt
      have E := Lib.hid e
      clear e FIN
      go_wp2
      go_ret
      exact ⟨by rw [← E.out]; rfl, rfl⟩
end Go.Proofs.YtbkliamhignmfaaGreatDoor
