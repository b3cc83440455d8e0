/- The tables that the rows of laws list: what they give a walk, and a world that holds them. -/
import Derived.Test.YtbkliamhignmfaaGreatDoorProg
import Derived.Test.YtbkliamhignmfaaGreatDoorRows
import Derived.Test.YtbkliamhignmfaaGreatDoorTz
import Derived.WalkKit
import Derived.ProofKit
import Derived.OpenShut
import Derived.Stop.LaidErr
import Derived.Lib.LaidTab
namespace Go.Proofs.YtbkliamhignmfaaGreatDoor
open Go.ChangeShapes Go.WideShapes Go.ChangeAt Go.RowKit

theorem own : ownKnob Tryz.prog.godebug = none := by kernel_rfl
theorem laid_glob {W : World} (h : laidMet Tryz.prog [("math/bits.deBruijn32tab", Rows.laid_math_bits_deBruijn32tab), ("math/bits.deBruijn64tab", Rows.laid_math_bits_deBruijn64tab), ("quartermaster/pool.costs", Rows.laid_quartermaster_pool_costs)] W) : Glob W := by
  have h64 : Lib.TabIs Tryz.prog W "math/bits.deBruijn64tab" .u8 (Lib.deBruijn64tab.map (Int.ofNat ·)) :=
    Lib.tabIs_of_head (g := 1) (by kernel_rfl) (by kernel_rfl) Tryz.underlying160 Tryz.underlying5 (by kernel_rfl) (by kernel_rfl) h.tail
  have hC : Lib.TabIs Tryz.prog W "quartermaster/pool.costs" .i64 [0, 64, 128, 256, 32, 32, 48, 256] :=
    Lib.tabIs_of_head (g := 0) (by kernel_rfl) (by kernel_rfl) Tryz.underlying80 Tryz.underlying3 (by kernel_rfl) (by kernel_rfl) h.tail.tail
  refine ⟨fun j hj => ?_, fun j hj => hC.cell (by kernel_rfl) j hj⟩
  refine (h64.cell (by kernel_rfl) j hj).trans ?_
  have key : ∀ j, j < 64 → (Lib.deBruijn64tab.map (Int.ofNat ·)).getD j 0 = ((Lib.deBruijn64tab.getD j 0 : Nat) : Int) := by decide +kernel
  rw [key j hj]

/-- An object whose cells are those, at the type and mark that it had. -/
def putCells (cs : Array Value) : Obj → Obj
  | .cells _ t frozen => .cells cs t frozen
  | o => o
def cells32 : Array Value := #[0, 1, 28, 2, 29, 14, 24, 3, 30, 22, 20, 15, 25, 17, 4, 8, 31, 27, 13, 23, 21, 19, 16, 7, 26, 12, 18, 6, 11, 5, 10, 9].map (Value.int .u8)
def cells64 : Array Value := #[0, 1, 56, 2, 57, 49, 28, 3, 61, 58, 42, 50, 38, 29, 17, 4, 62, 47, 59, 36, 45, 43, 51, 22, 53, 39, 33, 30, 24, 18, 12, 5, 63, 55, 48, 27, 60, 41, 37, 16, 46, 35, 44, 21, 52, 32, 23, 11, 54, 26, 40, 15, 34, 20, 31, 10, 25, 14, 19, 9, 13, 8, 7, 6].map (Value.int .u8)
def cellsCosts : Array Value := #[0, 64, 128, 256, 32, 32, 48, 256].map (Value.int .i64)
/-- A world for the witness: the settled one, its tables holding what their initialisers lay. -/
noncomputable def laidWorld (os : Os) : World :=
  { World.holding Tryz.prog os ⟨#[], #[], []⟩ with heap := (((World.holding Tryz.prog os ⟨#[], #[], []⟩).heap.modify 2 (putCells cells32)).modify 1 (putCells cells64)).modify 0 (putCells cellsCosts) }
theorem laid_met (os : Os) (args : Array Value) : laidMet Tryz.prog [("math/bits.deBruijn32tab", Rows.laid_math_bits_deBruijn32tab), ("math/bits.deBruijn64tab", Rows.laid_math_bits_deBruijn64tab), ("quartermaster/pool.costs", Rows.laid_quartermaster_pool_costs)] ((laidWorld os).forCall (fun _ _ => 0) ⟨#[], args, []⟩).memory :=
  laidMet_of_run' 8 (by kernel_rfl) (by kernel_rfl)
end Go.Proofs.YtbkliamhignmfaaGreatDoor
