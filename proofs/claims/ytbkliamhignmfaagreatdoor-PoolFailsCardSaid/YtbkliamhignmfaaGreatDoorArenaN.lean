/- Layer 1: making an arena. -/
import Derived.Test.YtbkliamhignmfaaGreatDoorArena
import Derived.Test.YtbkliamhignmfaaGreatDoorBitmapN
namespace Go.Proofs.YtbkliamhignmfaaGreatDoor
open Go.RowKit

/-- A size that may be. -/
def okSize (N : Int) : Prop := ∃ k : Nat, 16 ≤ k ∧ k ≤ 30 ∧ N = 2 ^ k
theorem okSize_bounds {N : Int} (h : okSize N) : 65536 ≤ N ∧ N ≤ 1073741824 := by
  obtain ⟨k, h1, h2, rfl⟩ := h
  have a : (2 : Int) ^ 16 ≤ 2 ^ k := by exact_mod_cast Nat.pow_le_pow_right (n := 2) (by omega) h1
  have b : (2 : Int) ^ k ≤ 2 ^ 30 := by exact_mod_cast Nat.pow_le_pow_right (n := 2) (by omega) h2
  exact ⟨by simpa using a, by simpa using b⟩
theorem okSize_iff (N : Nat) (h1 : 65536 ≤ N) (h2 : N ≤ 1073741824) : popc 64 N = 1 ↔ okSize N := by
  rw [popc_one 64 N (Nat.lt_of_le_of_lt h2 (by decide))]
  constructor
  · rintro ⟨k, hk, rfl⟩
    refine ⟨k, ?_, ?_, by simp⟩
    · apply Nat.le_of_not_lt; intro h
      have : 2 ^ k ≤ 2 ^ 15 := Nat.pow_le_pow_right (by omega) (by omega)
      have e : (2 : Nat) ^ 15 = 32768 := by decide
      omega
    · apply Nat.le_of_not_lt; intro h
      have : 2 ^ 31 ≤ 2 ^ k := Nat.pow_le_pow_right (by omega) (by omega)
      have e : (2 : Nat) ^ 31 = 2147483648 := by decide
      omega
  · rintro ⟨k, h3, h4, e⟩
    exact ⟨k, by omega, by exact_mod_cast e⟩

theorem infoU8 : (Tryz.prog.info? 5).map (fun i => (i.zero, i.size, i.bytes)) = some (some (.int .u8 0), 1, 1) := by kernel_rfl

theorem bcells_zero (N : Nat) : bcells N (fun _ => 0) = List.replicate N (.int .u8 0) := by
  unfold bcells
  rw [List.eq_replicate_iff]
  refine ⟨by simp, ?_⟩
  intro b hb
  obtain ⟨j, _, rfl⟩ := List.mem_map.1 hb
  rfl

set_option maxRecDepth 100000 in
set_option maxHeartbeats 800000 in
theorem arena_New (N : Nat) (w : World) (h : okSize N) :
    Calls Tryz.prog 35 #[.int .i64 N] w fun e w' =>
      ∃ p q, e = .returned (.pointer (some ⟨p, 0, none⟩)) ∧ AR w' p q N (fun _ => 0) ∧ Kept NoB w w' ∧ w.heap.size ≤ p ∧ w.heap.size ≤ q := by
  obtain ⟨h1, h2⟩ := okSize_bounds h
  have hp : popc 64 N = 1 := (okSize_iff N (by omega) (by omega)).2 h
  have hc := ones_walk N (w := w) (by omega)
  rw [hp] at hc
  have HC := Lib.hid hc
  clear hp hc h
  obtain ⟨i0, hi, hz0, hz1, hz2⟩ := info_parts infoU8
  have hmk : ∀ w : World, (Instr.makeSlice 89 (.int .i64 (N : Int)) (.int .i64 (N : Int))).run Tryz.prog w = .ok (.slice (some ⟨w.heap.size, 0, none⟩) N N) (w.alloc (.cells (bcells N (fun _ => 0)).toArray 5 (0, 0))) := fun w => by
    have := run_make (P := Tryz.prog) w 89 5 i0 (.int .u8 0) Tryz.underlying89 hi hz0 .i64 .i64 (N : Int) (N : Int) (by omega) (Int.le_refl _) (by rw [hz2]; omega) (by omega)
    rw [Int.toNat_natCast, hz1, Nat.mul_one] at this
    rw [this, bcells_zero]
    show Result.ok _ (w.alloc (.cells (madeCells #[Value.int .u8 0] N) 5)) = _
    rw [madeCells_list]
  clear hz0 hz1 hz2 hi
  go_enter Tryz.func35, Tryz.ntmps35
  go_wp2_with (go_at_call 62; refine HC.out.mono ?_; rintro e w' ⟨rfl, rfl⟩)
  go_ret
  refine ⟨w.heap.size + 1, w.heap.size, rfl, ⟨by omega, by omega, fun _ => by omega, ?_, ?_⟩, Kept.alloc (Kept.alloc (Kept.refl _ _) _) _, by omega, by omega⟩
  · have := Blk.new (w.alloc (.cells (bcells N (fun _ => 0)).toArray 5 (0, 0))) [.slice (some ⟨w.heap.size, 0, none⟩) N N] 127
    rw [World.size_alloc] at this
    exact this
  · exact (Blk.new w _ _).alloc _

set_option maxRecDepth 100000 in
set_option maxHeartbeats 800000 in
theorem arena_New_bad (N : Int) (w : World) (h : ¬ okSize N) (hN : N ≤ 9223372036854775807) :
    Calls Tryz.prog 35 #[.int .i64 N] w fun e w' => e = .returned (.pointer none) ∧ w = w' := by
  by_cases h1 : N < 65536
  · go_enter Tryz.func35, Tryz.ntmps35
    go_wp2
    go_ret
    exact ⟨rfl, rfl⟩
  · by_cases h2 : 1073741824 < N
    · go_enter Tryz.func35, Tryz.ntmps35
      go_wp2
      go_ret
      exact ⟨rfl, rfl⟩
    · obtain ⟨N, rfl⟩ := Int.eq_ofNat_of_zero_le (show 0 ≤ N by omega)
      have hp : popc 64 N ≠ 1 := fun e => h ((okSize_iff N (by omega) (by omega)).1 e)
      have hp' : (((popc 64 N : Nat) : Int) != 1) = true := by simp; omega
      have hc := ones_walk N (w := w) (by omega)
      have HC := Lib.hid hc
      clear hp hc h
      go_enter Tryz.func35, Tryz.ntmps35
      go_wp2_with (go_at_call 62; refine HC.out.mono ?_; rintro e w' ⟨rfl, rfl⟩)
      go_ret
      exact ⟨rfl, rfl⟩
end Go.Proofs.YtbkliamhignmfaaGreatDoor
