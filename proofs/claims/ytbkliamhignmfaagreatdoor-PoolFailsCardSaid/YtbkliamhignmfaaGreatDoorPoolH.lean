/- Layer 6: Put, Has, Used, and a pool's heads. -/
import Derived.Test.YtbkliamhignmfaaGreatDoorProg
import Derived.Test.YtbkliamhignmfaaGreatDoorPoolG
import Derived.StillTailTactics
namespace Go.Proofs.YtbkliamhignmfaaGreatDoor
open Go.RowKit

def PS.has (S : PS) (c a : Int) : Bool := decide (pcost c ≠ 0) && (S.cs c.toNat).has a

theorem pool_Has_no (h : PH) (F : Nat → Prop) (S : PS) (c a : Int) (hc : c ≤ 9223372036854775807) (w : World) (H : PoolAt w h F S) (h0 : pcost c = 0) :
    Calls Tryz.prog 10 #[.pointer (some ⟨h.p, 0, none⟩), .int .i64 c, .int .i64 a] w fun e w' => e = .returned (.bool false) ∧ w = w' := by
  have HC := Lib.hid (pool_Cost c hc w H.gl)
  have H0 := Lib.hid h0
  clear h0 H
  go_enter Tryz.func10, Tryz.ntmps10
  go_wp2_with (go_at_call 19; go_loud (refine HC.out.mono ?_; rw [H0.out]; rintro e w' ⟨rfl, rfl⟩))
  go_ret
  exact ⟨rfl, rfl⟩
set_option maxRecDepth 100000 in
theorem pool_Has_at (h : PH) (F : Nat → Prop) (S : PS) (k : Nat) (k0 : 1 ≤ k) (k1 : k ≤ 7) (a : Int) (ha : a ≤ 9223372036854775807) (w : World) (H : PoolAt w h F S) :
    Calls Tryz.prog 10 #[.pointer (some ⟨h.p, 0, none⟩), .int .i64 k, .int .i64 a] w fun e w' => e = .returned (.bool ((S.cs k).has a)) ∧ Kept NoB w w' := by
  have hpc := pcost_at k0 k1
  have hck : w.cell? ⟨h.p, 3 + k, none⟩ = some (.pointer (some ⟨h.c k, 0, none⟩)) := (H.cells.cell (3 + k)).trans (pocells_at h k k0 k1)
  obtain ⟨C, hC⟩ : ∃ C, C = pcost k := ⟨_, rfl⟩
  rw [← hC] at hpc
  have hCb : decide (0 < (C : Int)) = true := by simp; omega
  have HC := Lib.hid (pool_Cost k (by omega) w H.gl)
  have HCE := Lib.hid hC
  have HH := Lib.hid (pool_slabHas h F S k k0 k1 a ha w H)
  obtain ⟨B, hB⟩ : ∃ B, B = (S.cs k).has a := ⟨_, rfl⟩
  rw [← hB] at HH ⊢
  clear hC H hB
  go_enter Tryz.func10, Tryz.ntmps10
  go_wp2_with (first
    | (go_at_call 19; go_loud (refine HC.out.mono ?_; rw [← HCE.out]; rintro e w' ⟨rfl, rfl⟩))
    | (go_at_call 42; go_loud (refine HH.out.mono ?_; rintro e w' ⟨rfl, hk⟩)))
  go_ret
  exact ⟨rfl, hk⟩
theorem pool_Has (h : PH) (F : Nat → Prop) (S : PS) (c a : Int) (hc : c ≤ 9223372036854775807) (ha : a ≤ 9223372036854775807) (w : World) (H : PoolAt w h F S) :
    Calls Tryz.prog 10 #[.pointer (some ⟨h.p, 0, none⟩), .int .i64 c, .int .i64 a] w fun e w' => e = .returned (.bool (S.has c a)) ∧ Kept NoB w w' := by
  unfold PS.has
  by_cases h0 : pcost c = 0
  · have e : (decide (pcost c ≠ 0) && (S.cs c.toNat).has a) = false := by simp [h0]
    rw [e]
    refine (pool_Has_no h F S c a hc w H h0).mono ?_
    rintro e w' ⟨he, rfl⟩
    exact ⟨he, Kept.refl _ _⟩
  · obtain ⟨k, rfl, k0, k1⟩ := pcost_pos h0
    have e : (decide (pcost (k : Int) ≠ 0) && (S.cs ((k : Nat) : Int).toNat).has a) = (S.cs k).has a := by simp [h0]
    rw [e]
    exact pool_Has_at h F S k k0 k1 a ha w H

def PS.used (S : PS) (c : Int) : List Int := if pcost c = 0 then [] else (S.cs c.toNat).places
set_option maxRecDepth 100000 in
theorem pool_Used (h : PH) (F : Nat → Prop) (S : PS) (c : Int) (hc : c ≤ 9223372036854775807) (w : World) (H : PoolAt w h F S) :
    Calls Tryz.prog 14 #[.pointer (some ⟨h.p, 0, none⟩), .int .i64 c] w fun e w' =>
      ∃ v, e = .returned v ∧ w'.ownsRow w.heap.size 3 1 v (S.used c).length ((S.used c).map (Value.int .i64)) ∧ Kept NoB w w' := by
  unfold PS.used
  by_cases h0 : pcost c = 0
  · rw [if_pos h0]
    have HC := Lib.hid (pool_Cost c hc w H.gl)
    have H0 := Lib.hid h0
    have hz : ((pcost c : Nat) : Int) = 0 := by omega
    clear h0 H
    go_enter Tryz.func14, Tryz.ntmps14
    go_wp2_with (go_at_call 19; go_loud (refine HC.out.mono ?_; rw [H0.out]; rintro e w' ⟨rfl, rfl⟩))
    refine bodyPost_ret (results_tmp rfl _ _ _) rfl ?_
    exact ⟨_, rfl, World.ownsRow_nil _ _ _ _, Kept.refl _ _⟩
  · rw [if_neg h0]
    obtain ⟨k, rfl, k0, k1⟩ := pcost_pos h0
    have hpc := pcost_at k0 k1
    have hck : w.cell? ⟨h.p, 3 + k, none⟩ = some (.pointer (some ⟨h.c k, 0, none⟩)) := (H.cells.cell (3 + k)).trans (pocells_at h k k0 k1)
    rw [Int.toNat_natCast]
    obtain ⟨C, hC⟩ : ∃ C, C = pcost k := ⟨_, rfl⟩
    rw [← hC] at hpc
    have hCb : ((C : Int) == 0) = false := by simp; omega
    have HC := Lib.hid (pool_Cost k (by omega) w H.gl)
    have HCE := Lib.hid hC
    have HH := Lib.hid (pool_slabUsed h F S k k0 k1 w H)
    clear hC H h0
    go_enter Tryz.func14, Tryz.ntmps14
    go_wp2_with (first
      | (go_at_call 19; go_loud (refine HC.out.mono ?_; rw [← HCE.out]; rintro e w' ⟨rfl, rfl⟩))
      | (go_at_call 43; go_loud (refine HH.out.mono ?_; rintro e w' ⟨v, rfl, hv, hk⟩)))
    refine bodyPost_ret (results_tmp rfl _ _ _) rfl ?_
    exact ⟨_, rfl, hv, hk⟩

def PS.put (S : PS) (f c a : Int) : Int × PS :=
  if pcost c = 0 then (1, S)
  else if (S.cs c.toNat).has a = false then (6, S)
  else if (S.qs.refund f (pcost c)).1 ≠ 0 then ((S.qs.refund f (pcost c)).1, { S with qs := (S.qs.refund f (pcost c)).2 })
  else (((S.cs c.toNat).give S.bs a).1, { S with qs := (S.qs.refund f (pcost c)).2, bs := ((S.cs c.toNat).give S.bs a).2.2, cs := updC S.cs c.toNat ((S.cs c.toNat).give S.bs a).2.1 })

theorem pool_Put_arg (h : PH) (F : Nat → Prop) (S : PS) (f c a : Int) (hc : c ≤ 9223372036854775807) (w : World) (H : PoolAt w h F S) (h0 : pcost c = 0) :
    Calls Tryz.prog 9 #[.pointer (some ⟨h.p, 0, none⟩), .int .i64 f, .int .i64 c, .int .i64 a] w fun e w' => e = .returned (.int .i64 1) ∧ w = w' := by
  have HC := Lib.hid (pool_Cost c hc w H.gl)
  have H0 := Lib.hid h0
  clear h0 H
  go_enter Tryz.func9, Tryz.ntmps9
  go_wp2_with (go_at_call 19; go_loud (refine HC.out.mono ?_; rw [H0.out]; rintro e w' ⟨rfl, rfl⟩))
  go_ret
  exact ⟨rfl, rfl⟩
set_option maxRecDepth 100000 in
theorem pool_Put_none (h : PH) (F : Nat → Prop) (S : PS) (f : Int) (k : Nat) (k0 : 1 ≤ k) (k1 : k ≤ 7) (a : Int) (ha : a ≤ 9223372036854775807) (w : World) (H : PoolAt w h F S) (hh : (S.cs k).has a = false) :
    Calls Tryz.prog 9 #[.pointer (some ⟨h.p, 0, none⟩), .int .i64 f, .int .i64 k, .int .i64 a] w fun e w' => e = .returned (.int .i64 6) ∧ Kept NoB w w' := by
  have hpc := pcost_at k0 k1
  obtain ⟨C, hC⟩ : ∃ C, C = pcost k := ⟨_, rfl⟩
  rw [← hC] at hpc
  have hCb : ((C : Int) == 0) = false := by simp; omega
  have HC := Lib.hid (pool_Cost k (by omega) w H.gl)
  have HCE := Lib.hid hC
  have hH := pool_Has_at h F S k k0 k1 a ha w H
  rw [hh] at hH
  have HH := Lib.hid hH
  clear hC H hh hH
  go_enter Tryz.func9, Tryz.ntmps9
  go_wp2_with (first
    | (go_at_call 19; go_loud (refine HC.out.mono ?_; rw [← HCE.out]; rintro e w' ⟨rfl, rfl⟩))
    | (go_at_call 10; go_loud (refine HH.out.mono ?_; rintro e w' ⟨rfl, hk⟩)))
  go_ret
  exact ⟨rfl, hk⟩
end Go.Proofs.YtbkliamhignmfaaGreatDoor
