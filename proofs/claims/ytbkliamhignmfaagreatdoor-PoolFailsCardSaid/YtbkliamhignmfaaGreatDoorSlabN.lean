/- Layer 4: New. -/
import Derived.Test.YtbkliamhignmfaaGreatDoorProg
import Derived.Test.YtbkliamhignmfaaGreatDoorSlabG
namespace Go.Proofs.YtbkliamhignmfaaGreatDoor
open Go.RowKit

theorem slab_New (pb n : Nat) (w : World) (h0 : 16 ≤ n) (h1 : n ≤ 512) (h2 : n % 16 = 0) :
    Calls Tryz.prog 36 #[.pointer (some ⟨pb, 0, none⟩), .int .i64 (n : Nat)] w fun e w' =>
      e = .returned (.pointer (some ⟨w.heap.size, 0, none⟩)) ∧ CT w' w.heap.size pb (.slice none 0 0) (fun _ => 0) (fun _ => 0) { size := n, l := [] } ∧ Kept NoB w w' := by
  have e1 : decide ((n : Int) < 16) = false := by simp; omega
  have e2 : decide (512 < (n : Int)) = false := by simp; omega
  have e3 : ((n : Int) % 16 != 0) = false := by simp; omega
  go_enter Tryz.func36, Tryz.ntmps36
  go_wp2
  go_ret
  refine ⟨rfl, ⟨Blk.new w [.pointer (some ⟨pb, 0, none⟩), .int .i64 (n : Nat), .slice none 0 0] TCa, ⟨rfl, .inl ⟨rfl, rfl⟩⟩, fun p hp => by simp at hp, fun p hp => by simp at hp, ⟨h0, h1, fun p hp => by simp at hp, List.Pairwise.nil, fun p hp => by simp at hp⟩⟩, Kept.alloc (Kept.refl _ _) _⟩
theorem slab_New_nil (n : Int) (w : World) :
    Calls Tryz.prog 36 #[.pointer none, .int .i64 n] w fun e w' => e = .returned (.pointer none) ∧ w = w' := by
  go_enter Tryz.func36, Tryz.ntmps36
  go_wp2
  go_ret
  exact ⟨rfl, rfl⟩
theorem slab_New_zero (pb : Nat) (w : World) :
    Calls Tryz.prog 36 #[.pointer (some ⟨pb, 0, none⟩), .int .i64 0] w fun e w' => e = .returned (.pointer none) ∧ w = w' := by
  go_enter Tryz.func36, Tryz.ntmps36
  go_wp2
  go_ret
  exact ⟨rfl, rfl⟩
end Go.Proofs.YtbkliamhignmfaaGreatDoor
