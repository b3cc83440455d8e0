/- Layer 6: Put, a pool's heads; no pool. -/
import Derived.Test.YtbkliamhignmfaaGreatDoorProg
import Derived.Test.YtbkliamhignmfaaGreatDoorPoolH
import Derived.StillTailTactics
namespace Go.Proofs.YtbkliamhignmfaaGreatDoor
open Go.RowKit

set_option maxRecDepth 100000 in
theorem pool_Put_no (h : PH) (F : Nat → Prop) (S : PS) (f : Int) (k : Nat) (k0 : 1 ≤ k) (k1 : k ≤ 7) (a : Int) (ha : a ≤ 9223372036854775807) (w : World) (H : PoolAt w h F S) (hh : (S.cs k).has a = true) (r : Int) (hr : (S.qs.refund f (pcost k)).1 = r) (hr0 : r ≠ 0) :
    Calls Tryz.prog 9 #[.pointer (some ⟨h.p, 0, none⟩), .int .i64 f, .int .i64 k, .int .i64 a] w fun e w' =>
      e = .returned (.int .i64 r) ∧ PoolAt w' h (grow F w w') { S with qs := (S.qs.refund f (pcost k)).2 } ∧ Kept F w w' := by
  have hpc := pcost_at k0 k1
  obtain ⟨C, hC⟩ : ∃ C, C = pcost k := ⟨_, rfl⟩
  rw [← hC] at hpc hr
  have hCb : ((C : Int) == 0) = false := by simp; omega
  have hrb : (r != 0) = true := by simpa using hr0
  have HC := Lib.hid (fun w' (hg : Glob w') => pool_Cost k (by omega) w' hg)
  have HCE := Lib.hid hC
  have hH := pool_Has_at h F S k k0 k1 a ha w H
  rw [hh] at hH
  have HH := Lib.hid hH
  have HR := Lib.hid hr
  have HP := Lib.hid H
  clear hC H hh hH hr hr0
  go_enter Tryz.func9, Tryz.ntmps9
  go_wp2_with (first
    | (go_at_call 19; go_loud (refine (HC.out _ HP.out.gl).mono ?_; rw [← HCE.out]; rintro e w' ⟨rfl, rfl⟩))
    | (go_at_call 10; go_loud (refine HH.out.mono ?_; rintro e w1 ⟨rfl, hk⟩)))
  have hp1 := HP.out.keptNo hk
  have p0 : w1.cell? ⟨h.p, 0, none⟩ = some (.pointer (some ⟨h.t, 0, none⟩)) := hp1.cells.cell 0
  have HS := Lib.hid ((HC.out w1.drew (hp1.gl.keptNo (Kept.drew (Kept.refl _ _)))).mono (R' := fun e w'' => e = .returned (.int .i64 (C : Nat)) ∧ w'' = w1.drew) (fun e w' ⟨h1, h2⟩ => ⟨by rw [h1, HCE.out], h2.symm⟩))
  have HK := Lib.hid hk
  have HP1 := Lib.hid hp1
  clear hk hp1
  refine wp_region_still_tail 7 (by kernel_rfl) (by kernel_rfl) ?_
  simp only [List.take_succ_cons, List.take_zero, List.drop_succ_cons, List.drop_zero]
  change wpStill _ _ w1.drew (fun a' => wpList _ _ _ _ a' w1.drew) _ _
  repeat (first | still_step | still_call HS.out)
  refine wpStill_nil ?_
  go_wp2_with (go_at_call 40; go_loud (refine (pool_Refund h F S f C _ (HP1.out.keptNo (Kept.drew (Kept.refl _ _))) (by omega)).mono ?_; rw [HR.out]; rintro e w2 ⟨rfl, HP2, HK2⟩))
  go_ret
  rw [← HCE.out]
  have K1 : Kept F w w1 := HK.out.mono (fun _ e => e.elim)
  have K2 : Kept F w1 w2 := (Kept.refl F w1).drew.trans HK2
  refine ⟨rfl, HP2.mono (fun b hb => ?_) (grow_ng HP.out.gl HP.out.ng) (fun b hb => ?_), K1.trans K2⟩
  · rcases hb with hb | hb
    · exact .inl hb
    · exact .inr ⟨Nat.le_trans K1.size hb.1, hb.2⟩
  · rcases hb with hb | hb
    · have := HP.out.lt b hb; have := K1.size; have := K2.size; omega
    · exact hb.2

set_option maxRecDepth 100000 in
theorem pool_Put_ok (h : PH) (F : Nat → Prop) (S : PS) (f : Int) (k : Nat) (k0 : 1 ≤ k) (k1 : k ≤ 7) (a : Int) (ha : a ≤ 9223372036854775807) (w : World) (H : PoolAt w h F S) (hh : (S.cs k).has a = true) (hr : (S.qs.refund f (pcost k)).1 = 0) :
    Calls Tryz.prog 9 #[.pointer (some ⟨h.p, 0, none⟩), .int .i64 f, .int .i64 k, .int .i64 a] w fun e w' =>
      e = .returned (.int .i64 ((S.cs k).give S.bs a).1) ∧ PoolAt w' h (grow F w w') { S with qs := (S.qs.refund f (pcost k)).2, bs := ((S.cs k).give S.bs a).2.2, cs := updC S.cs k ((S.cs k).give S.bs a).2.1 } ∧ Kept F w w' := by
  have hpc := pcost_at k0 k1
  obtain ⟨C, hC⟩ : ∃ C, C = pcost k := ⟨_, rfl⟩
  rw [← hC] at hpc hr
  have hCb : ((C : Int) == 0) = false := by simp; omega
  have HC := Lib.hid (fun w' (hg : Glob w') => pool_Cost k (by omega) w' hg)
  have HCE := Lib.hid hC
  have hH := pool_Has_at h F S k k0 k1 a ha w H
  rw [hh] at hH
  have HH := Lib.hid hH
  have HR := Lib.hid hr
  have HP := Lib.hid H
  clear hC H hh hH hr
  go_enter Tryz.func9, Tryz.ntmps9
  go_wp2_with (first
    | (go_at_call 19; go_loud (refine (HC.out _ HP.out.gl).mono ?_; rw [← HCE.out]; rintro e w' ⟨rfl, rfl⟩))
    | (go_at_call 10; go_loud (refine HH.out.mono ?_; rintro e w1 ⟨rfl, hk⟩)))
  have hp1 := HP.out.keptNo hk
  have p0 : w1.cell? ⟨h.p, 0, none⟩ = some (.pointer (some ⟨h.t, 0, none⟩)) := hp1.cells.cell 0
  have HS := Lib.hid ((HC.out w1.drew (hp1.gl.keptNo (Kept.drew (Kept.refl _ _)))).mono (R' := fun e w'' => e = .returned (.int .i64 (C : Nat)) ∧ w'' = w1.drew) (fun e w' ⟨h1, h2⟩ => ⟨by rw [h1, HCE.out], h2.symm⟩))
  have HK := Lib.hid hk
  have HP1 := Lib.hid hp1
  clear hk hp1
  refine wp_region_still_tail 7 (by kernel_rfl) (by kernel_rfl) ?_
  simp only [List.take_succ_cons, List.take_zero, List.drop_succ_cons, List.drop_zero]
  change wpStill _ _ w1.drew (fun a' => wpList _ _ _ _ a' w1.drew) _ _
  repeat (first | still_step | still_call HS.out)
  refine wpStill_nil ?_
  go_wp2_with (first
    | (go_at_call 40; go_loud (refine (pool_Refund h F S f C _ (HP1.out.keptNo (Kept.drew (Kept.refl _ _))) (by omega)).mono ?_; rw [HR.out]; rintro e w2 ⟨rfl, hp2, hk2⟩; have hck : w2.cell? ⟨h.p, 3 + k, none⟩ = some (.pointer (some ⟨h.c k, 0, none⟩)) := (hp2.cells.cell (3 + k)).trans (pocells_at h k k0 k1); have HP2 := Lib.hid hp2; have HK2 := Lib.hid hk2; clear hp2 hk2))
    | (go_at_call 41; go_loud (refine (pool_Give h _ _ k k0 k1 a ha _ HP2.out).mono ?_; rintro e w3 ⟨rfl, HP3, HK3⟩)))
  go_ret
  rw [← HCE.out]
  have K1 : Kept F w w1 := HK.out.mono (fun _ e => e.elim)
  have K2 : Kept F w1 w2 := (Kept.refl F w1).drew.trans HK2.out
  have K3 := HK3
  refine ⟨rfl, HP3.mono (fun b hb => ?_) (grow_ng HP.out.gl HP.out.ng) (fun b hb => ?_), (K1.trans K2).andNew K3 (fun b hb => ?_)⟩
  · rcases hb with (hb | hb) | hb
    · exact .inl hb
    · exact .inr ⟨Nat.le_trans K1.size hb.1, Nat.lt_of_lt_of_le hb.2 K3.size⟩
    · exact .inr ⟨Nat.le_trans (K1.trans K2).size hb.1, hb.2⟩
  · rcases hb with hb | hb
    · have := HP.out.lt b hb; have := K1.size; have := K2.size; have := K3.size; omega
    · exact hb.2
  · rcases hb with hb | hb
    · exact .inl hb
    · exact .inr (Nat.le_trans K1.size hb.1)

/-- Memory is put back. -/
theorem pool_Put (h : PH) (F : Nat → Prop) (S : PS) (f c a : Int) (hc : c ≤ 9223372036854775807) (ha : a ≤ 9223372036854775807) (w : World) (H : PoolAt w h F S) :
    Calls Tryz.prog 9 #[.pointer (some ⟨h.p, 0, none⟩), .int .i64 f, .int .i64 c, .int .i64 a] w fun e w' =>
      e = .returned (.int .i64 (S.put f c a).1) ∧ PoolAt w' h (grow F w w') (S.put f c a).2 ∧ Kept F w w' := by
  unfold PS.put
  by_cases h0 : pcost c = 0
  · rw [if_pos h0]
    refine (pool_Put_arg h F S f c a hc w H h0).mono ?_
    rintro e w' ⟨he, rfl⟩
    exact ⟨he, H.grow1 H (Nat.le_refl _), Kept.refl _ _⟩
  · rw [if_neg h0]
    obtain ⟨k, rfl, k0, k1⟩ := pcost_pos h0
    rw [Int.toNat_natCast]
    by_cases hh : (S.cs k).has a = false
    · rw [if_pos hh]
      refine (pool_Put_none h F S f k k0 k1 a ha w H hh).mono ?_
      rintro e w' ⟨he, K⟩
      exact ⟨he, H.grow1 (H.keptNo K) K.size, K.mono (fun _ e => e.elim)⟩
    · rw [if_neg hh]
      have hh' : (S.cs k).has a = true := by simpa using hh
      by_cases hr : (S.qs.refund f (pcost k)).1 = 0
      · rw [if_neg (by simpa using hr)]
        exact pool_Put_ok h F S f k k0 k1 a ha w H hh' hr
      · rw [if_pos hr]
        exact pool_Put_no h F S f k k0 k1 a ha w H hh' _ rfl hr

theorem pool_Arena (h : PH) (F : Nat → Prop) (S : PS) (w : World) (H : PoolAt w h F S) :
    Calls Tryz.prog 11 #[.pointer (some ⟨h.p, 0, none⟩)] w fun e w' => e = .returned (.pointer (some ⟨h.ap, 0, none⟩)) ∧ w = w' := by
  have p2 : w.cell? ⟨h.p, 2, none⟩ = some (.pointer (some ⟨h.ap, 0, none⟩)) := H.cells.cell 2
  clear H
  go_enter Tryz.func11, Tryz.ntmps11
  go_wp2
  go_ret
  exact ⟨rfl, rfl⟩
theorem pool_Quota (h : PH) (F : Nat → Prop) (S : PS) (w : World) (H : PoolAt w h F S) :
    Calls Tryz.prog 12 #[.pointer (some ⟨h.p, 0, none⟩)] w fun e w' => e = .returned (.pointer (some ⟨h.t, 0, none⟩)) ∧ w = w' := by
  have p2 : w.cell? ⟨h.p, 0, none⟩ = some (.pointer (some ⟨h.t, 0, none⟩)) := H.cells.cell 0
  clear H
  go_enter Tryz.func12, Tryz.ntmps12
  go_wp2
  go_ret
  exact ⟨rfl, rfl⟩
theorem pool_Blocks (h : PH) (F : Nat → Prop) (S : PS) (w : World) (H : PoolAt w h F S) :
    Calls Tryz.prog 13 #[.pointer (some ⟨h.p, 0, none⟩)] w fun e w' => e = .returned (.pointer (some ⟨h.pb, 0, none⟩)) ∧ w = w' := by
  have p2 : w.cell? ⟨h.p, 1, none⟩ = some (.pointer (some ⟨h.pb, 0, none⟩)) := H.cells.cell 1
  clear H
  go_enter Tryz.func13, Tryz.ntmps13
  go_wp2
  go_ret
  exact ⟨rfl, rfl⟩

theorem pool_Get_nil (f c : Int) (w : World) :
    Calls Tryz.prog 8 #[.pointer none, .int .i64 f, .int .i64 c] w fun e w' => e = .returned (.tuple #[.int .i64 0, .int .i64 1]) ∧ w = w' := by
  go_enter Tryz.func8, Tryz.ntmps8
  go_wp2
  go_ret2
  exact ⟨rfl, rfl⟩
theorem pool_Put_nil (f c a : Int) (w : World) :
    Calls Tryz.prog 9 #[.pointer none, .int .i64 f, .int .i64 c, .int .i64 a] w fun e w' => e = .returned (.int .i64 1) ∧ w = w' := by
  go_enter Tryz.func9, Tryz.ntmps9
  go_wp2
  go_ret
  exact ⟨rfl, rfl⟩
theorem pool_Has_nil (c a : Int) (w : World) :
    Calls Tryz.prog 10 #[.pointer none, .int .i64 c, .int .i64 a] w fun e w' => e = .returned (.bool false) ∧ w = w' := by
  go_enter Tryz.func10, Tryz.ntmps10
  go_wp2
  go_ret
  exact ⟨rfl, rfl⟩
theorem pool_Arena_nil (w : World) :
    Calls Tryz.prog 11 #[.pointer none] w fun e w' => e = .returned (.pointer none) ∧ w = w' := by
  go_enter Tryz.func11, Tryz.ntmps11
  go_wp2
  go_ret
  exact ⟨rfl, rfl⟩
theorem pool_Quota_nil (w : World) :
    Calls Tryz.prog 12 #[.pointer none] w fun e w' => e = .returned (.pointer none) ∧ w = w' := by
  go_enter Tryz.func12, Tryz.ntmps12
  go_wp2
  go_ret
  exact ⟨rfl, rfl⟩
theorem pool_Blocks_nil (w : World) :
    Calls Tryz.prog 13 #[.pointer none] w fun e w' => e = .returned (.pointer none) ∧ w = w' := by
  go_enter Tryz.func13, Tryz.ntmps13
  go_wp2
  go_ret
  exact ⟨rfl, rfl⟩
theorem pool_Used_nil (c : Int) (w : World) :
    Calls Tryz.prog 14 #[.pointer none, .int .i64 c] w fun e w' => e = .returned (.slice none 0 0) ∧ w = w' := by
  go_enter Tryz.func14, Tryz.ntmps14
  go_wp2
  go_ret
  exact ⟨rfl, rfl⟩
end Go.Proofs.YtbkliamhignmfaaGreatDoor
