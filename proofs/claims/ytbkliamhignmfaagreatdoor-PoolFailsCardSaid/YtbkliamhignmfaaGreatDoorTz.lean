/- math/bits: trailing zeros of 64 bits, off the table as its initialiser lays it. -/
import Derived.Test.YtbkliamhignmfaaGreatDoorProg
import Derived.Test.YtbkliamhignmfaaGreatDoorBase
import Derived.Test.YtbkliamhignmfaaGreatDoorBits
namespace Go.Proofs.YtbkliamhignmfaaGreatDoor
open Go.RowKit

/-- The tables lie in their variables. -/
structure Glob (w : World) : Prop where
  tab : ∀ j, j < 64 → w.cell? ⟨1, j, none⟩ = some (.int .u8 (Lib.deBruijn64tab.getD j 0))
  cost : ∀ j : Nat, j < 8 → w.cell? ⟨0, j, none⟩ = some (.int .i64 (([0, 64, 128, 256, 32, 32, 48, 256] : List Int).getD j 0))
/-- A block that no table lies in. -/
def NotGlob (b : Nat) : Prop := b ≠ 1 ∧ b ≠ 0
theorem Glob.lt {w : World} (h : Glob w) : 1 < w.heap.size ∧ 0 < w.heap.size :=
  ⟨World.block_lt_of_cell? _ _ (h.tab 0 (by omega)), World.block_lt_of_cell? _ _ (h.cost 0 (by omega))⟩
theorem Glob.kept {F : Nat → Prop} {w w' : World} (h : Glob w) (k : Kept F w w') (hF : ∀ b, F b → NotGlob b) : Glob w' :=
  ⟨fun j hj => (World.cell?_of_block (w := w) (k.block _ h.lt.1 (fun e => (hF _ e).1 rfl))).trans (h.tab j hj),
   fun j hj => (World.cell?_of_block (w := w) (k.block _ h.lt.2 (fun e => (hF _ e).2 rfl))).trans (h.cost j hj)⟩

theorem tz_key (x a : Nat) (hx : x < 18446744073709551616) (hx0 : x ≠ 0) (hlow : x &&& (18446744073709551616 - x) = a) :
    IntKind.u64.wrap (bits BinOp.and IntKind.u64 (x : Int) (IntKind.u64.wrap (-(x : Int))) * 285870213051353865) / 288230376151711744 = ((a * 285870213051353865 % 18446744073709551616 / 288230376151711744 : Nat) : Int) := by
  have e1 : IntKind.u64.wrap (-(x : Int)) = ((18446744073709551616 - x : Nat) : Int) := by rw [IntKind.wrap_u64]; omega
  rw [e1, bits_and_u64_nat x _ hx (by omega), hlow, IntKind.wrap_u64]
  omega

theorem tz_core (x k idx : Nat) (w : World) (hx0 : ((x : Int) == 0) = false)
    (key : IntKind.u64.wrap (bits BinOp.and IntKind.u64 (x : Int) (IntKind.u64.wrap (-(x : Int))) * 285870213051353865) / 288230376151711744 = (idx : Int))
    (hi : idx < 64) (hk : k < 64) (hcell : w.cell? ⟨1, idx, none⟩ = some (.int .u8 k)) :
    Calls Tryz.prog 85 #[.int .u64 x] w fun e w' => e = .returned (.int .i64 k) ∧ w = w' := by
  go_enter Tryz.func85, Tryz.ntmps85
  go_wp2_with (simp only [key])
  go_ret
  exact ⟨rfl, rfl⟩

theorem tz64 (x : Nat) (hx : x < 18446744073709551616) (w : World) (hg : Glob w) :
    Calls Tryz.prog 85 #[.int .u64 x] w fun e w' => e = .returned (.int .i64 (Lib.ctz 64 x : Nat)) ∧ w = w' := by
  by_cases hx0 : x = 0
  · subst hx0
    go_enter Tryz.func85, Tryz.ntmps85
    go_wp2
    go_ret
    exact ⟨rfl, rfl⟩
  · obtain ⟨hlow, hk⟩ := Lib.lowest_bit 64 x hx0 hx
    obtain ⟨hi, htab⟩ := Lib.deBruijn64_at _ hk
    have hcell := hg.tab _ hi
    rw [htab] at hcell
    exact tz_core x _ _ w (by simp; omega) (tz_key x _ hx hx0 hlow) hi hk hcell

/-- .. of an uint. -/
theorem tz (x : Nat) (hx : x < 18446744073709551616) (w : World) (hg : Glob w) :
    Calls Tryz.prog 63 #[.int .u64 x] w fun e w' => e = .returned (.int .i64 (Lib.ctz 64 x : Nat)) ∧ w = w' := by
  have h := tz64 x hx w hg
  go_enter Tryz.func63, Tryz.ntmps63
  go_wp2_with (go_at_call 85; refine h.mono ?_; rintro e w' ⟨rfl, rfl⟩)
  go_ret
  exact ⟨rfl, rfl⟩
end Go.Proofs.YtbkliamhignmfaaGreatDoor
