/- Layer 3: Left. -/
import Derived.Test.YtbkliamhignmfaaGreatDoorProg
import Derived.Test.YtbkliamhignmfaaGreatDoorBuddyF
namespace Go.Proofs.YtbkliamhignmfaaGreatDoor
open Go.RowKit

def leftL (l : List (Nat × Nat)) : Nat := (l.map fun x => 1024 * 2 ^ x.2).sum
theorem leftL_take (l : List (Nat × Nat)) (j : Nat) (h : j < l.length) : leftL (l.take (j + 1)) = leftL (l.take j) + 1024 * 2 ^ l[j].2 := by
  unfold leftL
  rw [List.take_succ_eq_append_getElem h, List.map_append, List.sum_append]
  simp
theorem leftL_le (l : List (Nat × Nat)) (h : ∀ x ∈ l, x.2 ≤ 20) : leftL l ≤ l.length * 1073741824 := by
  induction l with
  | nil => simp [leftL]
  | cons x t ih =>
    have h1 := ih (fun y hy => h y (by simp [hy]))
    have h2 : 2 ^ x.2 ≤ 2 ^ 20 := Nat.pow_le_pow_right (by omega) (h x (by simp))
    have e : (2 : Nat) ^ 20 = 1048576 := by decide
    have e2 : leftL (x :: t) = 1024 * 2 ^ x.2 + leftL t := by simp [leftL]
    rw [e2, List.length_cons]
    omega
theorem freeL_ord (s : BS) : ∀ x ∈ s.freeL, x.2 ≤ s.top := by
  intro x hx
  unfold BS.freeL freeTo at hx
  obtain ⟨k, hk, hx⟩ := List.mem_flatMap.1 hx
  unfold freeAt at hx
  obtain ⟨i, _, rfl⟩ := List.mem_map.1 hx
  have := List.mem_range.1 hk
  show k ≤ s.top
  omega

/-- The row of a slice that is held. -/
theorem ownsRow_at {w : World} {E : TypeId} {v : Value} {l : List (Nat × Nat)} (h : w.ownsRow 0 E 2 v l.length (bks l)) : ∃ a cap, v = .slice a l.length cap ∧ ∀ (j : Nat) (hj : j < l.length), ∃ g, a = some ⟨g, 0, none⟩ ∧ g < w.heap.size ∧ w.cell? ⟨g, j * 2, none⟩ = some (.int .i64 (l[j].1 : Nat)) ∧ w.cell? ⟨g, j * 2 + 1, none⟩ = some (.int .i64 (l[j].2 : Nat)) := by
  by_cases h0 : 0 < l.length
  · obtain ⟨g, c, all, hv, hr, _, _⟩ := ownsRow_form h h0
    exact ⟨_, _, hv, fun j hj => ⟨g, rfl, hr.blk.lt, hr.cell _ _ (bks_get l j hj).1, hr.cell _ _ (bks_get l j hj).2⟩⟩
  · rcases h.2 with ⟨e, e0⟩ | ⟨g, cap, cur, e, h1, h2, h3⟩
    · exact ⟨none, 0, by rw [e, e0], fun j hj => by omega⟩
    · exact ⟨_, _, e, fun j hj => by omega⟩

set_option maxRecDepth 100000 in
set_option maxHeartbeats 1000000 in
theorem buddy_Left (pb um : Nat) (bp bq : Nat → Nat) (s : BS) (w : World) (h : BT w pb um bp bq s) (hg : Glob w) :
    Calls Tryz.prog 32 #[.pointer (some ⟨pb, 0, none⟩)] w fun e w' => e = .returned (.int .i64 (leftL s.freeL : Nat)) ∧ Kept NoB w w' := by
  have HF := Lib.hid (buddy_Free pb um bp bq s w h hg)
  have hlen0 : s.freeL.length ≤ 22020096 := by
    have := freeTo_len s h.ok (s.top + 1) (Nat.le_refl _)
    have := h.ok.t1
    unfold BS.freeL; omega
  have hord : ∀ x ∈ s.freeL, x.2 ≤ 20 := fun x hx => by have := freeL_ord s x hx; have := h.ok.t1; omega
  have HO := Lib.hid hord
  clear h hg hord
  go_enter Tryz.func32, Tryz.ntmps32
  go_wp2_with (go_at_call 27; go_loud (refine HF.out.mono ?_; rintro e w1 ⟨v, l, rfl, hp, hs, hr, hb, hk⟩; obtain ⟨a, cap, rfl, hat⟩ := ownsRow_at hr; have HAT := Lib.hid hat; have HP := Lib.hid hp; have HK := Lib.hid hk; have hlen := hp.length_eq; have HL := Lib.hid hlen; have hlen1 : l.length ≤ 22020096 := (by omega); clear hp hs hr hb hk hat hlen))
  go_loopw [3, 5, 9] (fun n _ x wr => ∃ j : Nat, j ≤ l.length ∧ x = .int .i64 j ∧ n = .int .i64 (leftL (l.take j) : Nat) ∧ Hid (Kept NoB w1 wr)) (fun _ _ x _ => l.length - (intOf x).toNat)
  case atStart => exact ⟨0, Nat.zero_le _, rfl, by simp [leftL], Kept.refl _ _⟩
  case round =>
    obtain ⟨j, hj, rfl, rfl, HK2⟩ := hrel
    have hordl : ∀ x ∈ l, x.2 ≤ 20 := fun x hx => HO.out x (HP.out.mem_iff.1 hx)
    have hb1 : leftL (l.take j) ≤ 22020096 * 1073741824 := by
      have h1 := leftL_le (l.take j) (fun x hx => hordl x (List.mem_of_mem_take hx))
      have h2 := List.length_take_le j l
      have h3 : (l.take j).length ≤ l.length := by rw [List.length_take]; omega
      exact Nat.le_trans h1 (Nat.mul_le_mul_right _ (by omega))
    by_cases hlt : j < l.length
    · obtain ⟨g, rfl, hg, c0, c1⟩ := HAT.out j hlt
      have d0 : wr.cell? ⟨g, j * 2, none⟩ = some (.int .i64 (l[j].1 : Nat)) := (World.cell?_of_block (w := w1) (HK2.out.block g hg (fun e => e))).trans c0
      have d1 : wr.cell? ⟨g, j * 2 + 1, none⟩ = some (.int .i64 (l[j].2 : Nat)) := (World.cell?_of_block (w := w1) (HK2.out.block g hg (fun e => e))).trans c1
      have hts := leftL_take l j hlt
      have ho := hordl l[j] (List.getElem_mem hlt)
      obtain ⟨O, hO⟩ : ∃ O, O = l[j].2 := ⟨_, rfl⟩
      obtain ⟨A, hA⟩ : ∃ A, A = l[j].1 := ⟨_, rfl⟩
      obtain ⟨M, hM⟩ : ∃ M, M = leftL (l.take j) := ⟨_, rfl⟩
      rw [← hO] at d1 hts ho
      rw [← hA] at d0
      rw [← hM] at hb1 hts ⊢
      have hp2 : 2 ^ O ≤ 1048576 := Nat.le_trans (Nat.pow_le_pow_right (by omega) ho) (by decide)
      have hsh : wrap64 (1024 * 2 ^ O) = ((1024 * 2 ^ O : Nat) : Int) := by
        have : ((1024 : Int) * 2 ^ O) = ((1024 * 2 ^ O : Nat) : Int) := by push_cast; rfl
        rw [this]
        generalize 2 ^ O = z at hp2 ⊢
        unfold wrap64; omega
      have hsum : wrap64 ((M : Int) + ((1024 * 2 ^ O : Nat) : Int)) = ((M + 1024 * 2 ^ O : Nat) : Int) := by
        generalize 2 ^ O = z at hp2 ⊢
        unfold wrap64; omega
      have HSH := Lib.hid hsh
      have HSU := Lib.hid hsum
      have HTS := Lib.hid hts
      clear hts hO hA hM hsh hsum c0 c1 hordl hp2
      go_wp2
      refine ⟨⟨j + 1, by omega, by go_num, by rw [HSH.out, HSU.out, HTS.out], HK2.out.alloc _⟩, ?_⟩
      simp [intOf]; omega
    · obtain rfl : j = l.length := by omega
      go_wp2
      go_ret
      refine ⟨?_, HK.out.trans HK2.out⟩
      rw [List.take_length]
      have : leftL l = leftL s.freeL := by unfold leftL; exact (HP.out.map _).sum_nat
      rw [this]; rfl
end Go.Proofs.YtbkliamhignmfaaGreatDoor
