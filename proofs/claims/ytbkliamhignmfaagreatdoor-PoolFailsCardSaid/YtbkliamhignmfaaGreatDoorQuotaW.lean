/- Layer 5: the walks of package quota. -/
import Derived.Test.YtbkliamhignmfaaGreatDoorProg
import Derived.Test.YtbkliamhignmfaaGreatDoorBase
import Derived.Test.YtbkliamhignmfaaGreatDoorMap
import Derived.LoopTactic
import Derived.RegionTactic
import Derived.BigRegion
import Derived.StillTailTactics
import Derived.IntWalk
import Derived.Deep.RegionWith
namespace Go.Proofs.YtbkliamhignmfaaGreatDoor
open Go.RowKit

/-- A factory's account. -/
structure Fac where
  limit : Int
  charged : Int
  given : Int
  parent : Int
  kids : Int
/-- Its numbers may be. -/
structure Fac.ok (f : Fac) : Prop where
  c0 : 0 ≤ f.charged
  g0 : 0 ≤ f.given
  le : f.charged + f.given ≤ f.limit
  l30 : f.limit ≤ 1073741824
  k0 : 0 ≤ f.kids
  k1 : f.kids ≤ 1073741824
def Fac.cells (f : Fac) : List Value := [.int .i64 f.limit, .int .i64 f.charged, .int .i64 f.given, .int .i64 f.parent, .int .i64 f.kids]
def Fac.use (f : Fac) : Int := f.charged + f.given

set_option maxRecDepth 100000 in
theorem quota_sum2 (s : Nat) (a b : Int) (w : World) (ha : 0 ≤ a) (hb : 0 ≤ b) (ha2 : a ≤ 1099511627776) (hb2 : b ≤ 1099511627776) (h0 : w.cell? ⟨s, 0, none⟩ = some (.int .i64 a)) (h1 : w.cell? ⟨s, 1, none⟩ = some (.int .i64 b)) :
    Calls Tryz.prog 82 #[.slice (some ⟨s, 0, none⟩) 2 2] w fun e w' => e = .returned (.int .i64 (a + b)) ∧ w = w' := by
  go_enter Tryz.func82, Tryz.ntmps82
  go_wp2
  refine wp_loop_rounds 3 ?_
  rw [rounds_succ]
  go_wp2
  rw [rounds_succ]
  go_wp2
  rw [rounds_succ]
  go_wp2
  go_ret
  exact ⟨rfl, rfl⟩

set_option maxRecDepth 100000 in
theorem account_use (b : Nat) (f : Fac) (w : World) (h : Blk w b f.cells 98) (hf : f.ok) :
    Calls Tryz.prog 56 #[.pointer (some ⟨b, 0, none⟩)] w fun e w' =>
      e = .returned (.int .i64 f.use) ∧ (w.alloc (.cells #[.int .i64 f.charged, .int .i64 f.given] 3)).drew = w' := by
  have h1 := h.cell 1
  have h2 := h.cell 2
  simp only [Fac.cells] at h1 h2
  obtain ⟨c0, g0, le, l30, _, _⟩ := hf
  have b1 : f.charged ≤ 1099511627776 := by omega
  have b2 : f.given ≤ 1099511627776 := by omega
  go_enter Tryz.func56, Tryz.ntmps56
  go_wp2
  go_still_tail 8, (by kernel_rfl)
  go_wp2_with fail
  refine (quota_sum2 _ _ _ _ c0 g0 b1 b2 (by simp) (by simp)).mono ?_
  rintro e w' ⟨rfl, rfl⟩
  go_wp2
  go_ret
  exact ⟨rfl, rfl⟩

set_option maxRecDepth 100000 in
theorem account_fits (b : Nat) (f : Fac) (n : Int) (w : World) (h : Blk w b f.cells 98) (hf : f.ok) :
    Calls Tryz.prog 53 #[.pointer (some ⟨b, 0, none⟩), .int .i64 n] w fun e w' =>
      e = .returned (.bool (decide (n ≤ f.limit - f.use))) ∧ Kept NoB w w' := by
  have h0 := h.cell 0
  have hlt := h.lt
  have HC := Lib.hid h
  have U0 : 0 ≤ f.use := by unfold Fac.use; have := hf.c0; have := hf.g0; omega
  have U1 : f.use ≤ f.limit := by unfold Fac.use; exact hf.le
  have U2 := hf.l30
  simp only [Fac.cells] at h0
  have hsub : IntKind.i64.wrap (f.limit - f.use) = f.limit - f.use := IntWalk.i64_in _ (by omega)
  clear h
  go_enter Tryz.func53, Tryz.ntmps53
  go_wp2
  go_region_with (go_at_call 56; refine (account_use b f _ HC.out.drew hf).mono ?_; rintro e w' ⟨rfl, rfl⟩)
  all_goals (go_wp2; go_ret; exact ⟨rfl, Kept.drew (Kept.alloc (Kept.drew (Kept.refl _ _)) _)⟩)
end Go.Proofs.YtbkliamhignmfaaGreatDoor
