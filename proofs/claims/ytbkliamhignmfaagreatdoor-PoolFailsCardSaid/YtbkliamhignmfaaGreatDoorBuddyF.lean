/- Layer 3: Free, Left. -/
import Derived.Test.YtbkliamhignmfaaGreatDoorProg
import Derived.Test.YtbkliamhignmfaaGreatDoorBuddyS
import Derived.Test.YtbkliamhignmfaaGreatDoorBuddyP
import Derived.Test.YtbkliamhignmfaaGreatDoorBuddy
import Derived.Test.YtbkliamhignmfaaGreatDoorSlabP
import Derived.Maps.AppendAt
import Derived.OwnWalk
namespace Go.Proofs.YtbkliamhignmfaaGreatDoor
open Go.RowKit

def freeAt (s : BS) (k f : Nat) : List (Nat × Nat) := (usedFrom (s.free k) f).map fun i => (1024 * i * 2 ^ k, k)
def freeTo (s : BS) (k : Nat) : List (Nat × Nat) := (List.range k).flatMap fun j => freeAt s j 0
theorem freeTo_succ (s : BS) (k : Nat) : freeTo s (k + 1) = freeTo s k ++ freeAt s k 0 := by
  unfold freeTo
  rw [List.range_succ, List.flatMap_append]; simp
/-- The free blocks, order by order. -/
def BS.freeL (s : BS) : List (Nat × Nat) := freeTo s (s.top + 1)
theorem usedFrom_len (l : List Bool) (f : Nat) : (usedFrom l f).length ≤ l.length := by
  unfold usedFrom
  have := List.length_filter_le (fun i => decide (f ≤ i) && bit l i) (List.range l.length)
  simpa using this
theorem freeAt_len (s : BS) (h : s.ok) (k f : Nat) (hk : k ≤ s.top) : (freeAt s k f).length ≤ 1048576 := by
  unfold freeAt
  rw [List.length_map]
  have h1 := usedFrom_len (s.free k) f
  have h2 := h.len k hk
  have h3 : 2 ^ (s.top - k) ≤ 2 ^ 20 := Nat.pow_le_pow_right (by omega) (by have := h.t1; omega)
  have e : (2 : Nat) ^ 20 = 1048576 := by decide
  omega
theorem freeTo_len (s : BS) (h : s.ok) : ∀ k, k ≤ s.top + 1 → (freeTo s k).length ≤ k * 1048576
  | 0, _ => by simp [freeTo]
  | k + 1, hk => by
    have h1 := freeTo_len s h k (by omega)
    have h2 := freeAt_len s h k 0 (by omega)
    rw [freeTo_succ, List.length_append]; omega
theorem cell_new_k (w : World) (cs : List Value) (T : TypeId) : ∀ (j : Nat) (u : Value), cs[j]? = some u → (w.alloc (.cells cs.toArray T (0, 0))).cell? ((⟨w.heap.size, 0, none⟩ : Addr).add j) = some u := fun j u hj => by
  have := (Blk.new w cs T).cell j
  have e : ((⟨w.heap.size, 0, none⟩ : Addr).add j) = ⟨w.heap.size, j, none⟩ := by simp [Addr.add]; omega
  rw [e, this]; exact hj
theorem ownsRow_base {w : World} {base : Nat} {E : TypeId} {k : Nat} {v : Value} {n : Nat} {xs : List Value} (h : w.ownsRow base E k v n xs) {b : Nat} (hb : v.ownBlock = some b) : base ≤ b := by
  rcases h.2 with ⟨e, e0⟩ | ⟨g, cap, cur, e, h1, h2, h3⟩
  · rw [e] at hb; cases hb
  · rw [e] at hb; cases hb; exact h1
theorem ownsRow_zero {w : World} {base : Nat} {E : TypeId} {k : Nat} {v : Value} {n : Nat} {xs : List Value} (h : w.ownsRow base E k v n xs) : w.ownsRow 0 E k v n xs := by
  refine ⟨h.1, ?_⟩
  rcases h.2 with h | ⟨g, cap, cur, e, h1, h2⟩
  · exact .inl h
  · exact .inr ⟨g, cap, cur, e, Nat.zero_le _, h2⟩
theorem infoBk : (Tryz.prog.info? TBk).map (fun i => (i.zero, i.size, i.bytes)) = some (some (.agg #[.int .i64 0, .int .i64 0]), 2, 16) := by kernel_rfl

set_option maxRecDepth 100000 in
set_option maxHeartbeats 2000000 in
theorem buddy_Free (pb um : Nat) (bp bq : Nat → Nat) (s : BS) (w : World) (h : BT w pb um bp bq s) (hg : Glob w) :
    Calls Tryz.prog 27 #[.pointer (some ⟨pb, 0, none⟩)] w fun e w' =>
      ∃ v l, e = .returned v ∧ l.Perm s.freeL ∧ l.Pairwise (fun x y => x.1 ≤ y.1) ∧ w'.ownsRow 0 TBk 2 v l.length (bks l) ∧ (∀ b, v.ownBlock = some b → w.heap.size ≤ b) ∧ Kept NoB w w' := by
  obtain ⟨i0, hi, hz0, hz1, hz2⟩ := info_parts infoBk
  have h0 : w.cell? ⟨pb, 0, none⟩ = some (.int .i64 (s.top : Nat)) := h.hb.cell 0
  have t1 := h.ok.t1
  have HB := Lib.hid h
  have HG := Lib.hid hg
  clear h hg
  obtain ⟨T, hT⟩ : ∃ T, T = s.top := ⟨_, rfl⟩
  rw [← hT] at h0 t1
  have HT := Lib.hid hT
  clear hT
  go_enter Tryz.func27, Tryz.ntmps27
  go_wp2
  go_loopw [3, 4, 5] (fun o x _ wr => ∃ (k : Nat), k ≤ T + 1 ∧ x = .int .i64 k ∧ wr.ownsRow w.heap.size TBk 2 o (freeTo s k).length (bks (freeTo s k)) ∧ Kept NoB w wr) (fun _ x _ _ => T + 1 - (intOf x).toNat)
  case atStart => exact ⟨0, by omega, rfl, World.ownsRow_nil _ _ _ _, Kept.refl _ _⟩
  case round =>
    obtain ⟨k, hk, rfl, hrow, hK⟩ := hrel
    have HR := Lib.hid hrow
    have HK := Lib.hid hK
    have c0 : wr.cell? ⟨pb, 0, none⟩ = some (.int .i64 (T : Nat)) := by rw [HT.out]; exact ((HB.out.keptNo hK).hb.cell 0)
    clear hrow hK
    by_cases hkT : k ≤ T
    · have ck : wr.cell? ⟨pb, 1 + k, none⟩ = some (.pointer (some ⟨bp k, 0, none⟩)) := ((HB.out.keptNo HK.out).hb.cell (1 + k)).trans (bucells_at _ _ _ _ (by rw [← HT.out]; exact hkT) HB.out.ok.t1)
      have HF := Lib.hid (fun (f : Nat) (hf : f ≤ 4611686018427387904) w' (K' : Kept NoB w w') => bitmap_First (bp k) (bq k) (s.free k) true f w' ((HB.out.keptNo K').hf k (by rw [← HT.out]; exact hkT)) (HG.out.keptNo K') hf)
      obtain ⟨P, hP⟩ : ∃ P, P = bp k := ⟨_, rfl⟩
      obtain ⟨B, hB⟩ : ∃ B, B = s.free k := ⟨_, rfl⟩
      have hBl : B.length = 2 ^ (T - k) := by rw [hB, HT.out]; exact HB.out.ok.len k (by rw [← HT.out]; exact hkT)
      have hBl2 : B.length ≤ 1048576 := by
        rw [hBl]
        exact Nat.le_trans (Nat.pow_le_pow_right (by omega) (show T - k ≤ 20 by omega)) (by decide)
      rw [← hP] at ck
      rw [← hP, ← hB] at HF
      have HBE := Lib.hid hB
      have HPE := Lib.hid hP
      have HBL := Lib.hid hBl
      clear hP hB hBl
      go_wp2_with (go_at_call 57; go_loud (refine (HF.out 0 (by omega) _ HK.out).mono ?_; rintro e w' ⟨rfl, rfl⟩))
      go_loopw [3, 5] (fun o x w2 => ∃ (f : Nat) (front : List (Nat × Nat)), x = .int .i64 (firstFrom B true f) ∧ f ≤ B.length ∧ Hid (front ++ freeAt s k f = freeAt s k 0) ∧ Hid (w2.ownsRow w.heap.size TBk 2 o (freeTo s k ++ front).length (bks (freeTo s k ++ front))) ∧ Hid (Kept NoB w w2)) (fun _ x _ => if intOf x < 0 then 0 else B.length - (intOf x).toNat)
      case atStart => exact ⟨0, [], rfl, Nat.zero_le _, rfl, by rw [List.append_nil]; exact HR.out, HK.out⟩
      case round =>
        obtain ⟨f, front, rfl, hf, HFR, HR2, HK2⟩ := hrel
        rcases firstFrom_cases B true f with ⟨hff, hno⟩ | ⟨i, hff, hi2, hfi, hbi, hmin⟩
        · have hend : freeAt s k f = [] := by unfold freeAt; rw [← HBE.out, usedFrom_none hno]; rfl
          have hfr := HFR.out
          rw [hend, List.append_nil] at hfr
          have HE := Lib.hid hfr
          rw [hff]
          clear hno hend hff hfr
          go_wp2
          go_roundw
          case rel => exact ⟨k + 1, by omega, by go_num, by rw [freeTo_succ, ← HE.out]; exact HR2.out, HK2.out⟩
          case measure => simp [intOf]; omega
        · have hpc : freeAt s k f = (1024 * i * 2 ^ k, k) :: freeAt s k (i + 1) := by
            unfold freeAt
            rw [← HBE.out, usedFrom_cons hi2 hfi hbi hmin, List.map_cons]
          have hX : 1024 * i * 2 ^ k < 1073741824 := by
            have e1 : 2 ^ k * 2 ^ (T - k) = 2 ^ T := by rw [← Nat.pow_add]; congr 1; omega
            have e2 : 2 ^ T ≤ 2 ^ 20 := Nat.pow_le_pow_right (by omega) t1
            have e3 : i * 2 ^ k < 2 ^ (T - k) * 2 ^ k := Nat.mul_lt_mul_of_pos_right (by rw [← HBL.out]; exact hi2) (Nat.two_pow_pos k)
            rw [Nat.mul_comm (2 ^ (T - k)), e1] at e3
            rw [Nat.mul_assoc]
            have e4 : (2 : Nat) ^ 20 = 1048576 := by decide
            generalize i * 2 ^ k = z at e3 ⊢
            omega
          obtain ⟨X, hXe⟩ : ∃ X : Nat, X = 1024 * i * 2 ^ k := ⟨_, rfl⟩
          rw [← hXe] at hpc hX
          have hlen : (freeTo s k ++ front).length ≤ 22020096 := by
            have a1 := freeTo_len s HB.out.ok (k + 1) (by rw [← HT.out]; omega)
            rw [freeTo_succ, ← HFR.out] at a1
            simp at a1 ⊢
            omega
          have HFR2 : Hid ((front ++ [(X, k)]) ++ freeAt s k (i + 1) = freeAt s k 0) := by
            have := HFR.out
            rw [hpc] at this
            rw [List.append_assoc]; exact this
          have hmul : wrap64 ((i : Int) * 1024 * 2 ^ k) = (X : Int) := by
            have : ((i : Int) * 1024 * 2 ^ k) = (X : Int) := by rw [hXe]; push_cast; rw [Int.mul_comm (i : Int) 1024]
            rw [this]; clear hXe this; unfold wrap64; omega
          have HM := Lib.hid hmul
          have c3 : wr.cell? ⟨pb, 1 + k, none⟩ = some (.pointer (some ⟨P, 0, none⟩)) := by rw [HPE.out]; exact ((HB.out.keptNo HK2.out).hb.cell (1 + k)).trans (bucells_at _ _ _ _ (by rw [← HT.out]; exact hkT) HB.out.ok.t1)
          rw [hff]
          clear hpc hXe hmin hff HFR hmul
          go_wp2_with (first
            | (at_builtin; go_loud (refine wpList_append_own _ rfl (.tmp 36) (.tmp 43) 61 rfl w.heap.size TBk i0 (.agg #[.int .i64 0, .int .i64 0]) 2 16 Tryz.underlying61 hi hz0 hz1 hz2 rfl (by decide) _ _ _ rfl (ownsRow_kept HR2.out (Kept.alloc (Kept.refl NoB _) _) (fun _ _ e => e)) ⟨wr.heap.size, 0, none⟩ 1 1 [.int .i64 (wrap64 ((i : Int) * 1024 * 2 ^ k)), .int .i64 k] rfl rfl (cell_new_k wr [.int .i64 (wrap64 ((i : Int) * 1024 * 2 ^ k)), .int .i64 k] TBk) (by simp [Value.oneCell']) (by unfold maxLen; omega) (by omega) (by have := HK2.out.size; simp; omega) ?_; intro v' w1 hown' hgrow _; have HO := Lib.hid hown'; have HK3 := Lib.hid (Kept.grown (HK2.out.alloc _) hgrow (fun b e => .inr (ownsRow_base HR2.out e))); have c4 : w1.cell? ⟨pb, 1 + k, none⟩ = some (.pointer (some ⟨P, 0, none⟩)) := (by rw [HPE.out]; exact ((HB.out.keptNo HK3.out).hb.cell (1 + k)).trans (bucells_at _ _ _ _ (by rw [← HT.out]; exact hkT) HB.out.ok.t1)); clear hown' hgrow))
            | (go_at_call 57; go_loud (refine (HF.out (i + 1) (by omega) _ HK3.out).mono ?_; rintro e w' ⟨rfl, rfl⟩)))
          have hO := HO.out
          rw [HM.out] at hO
          have hbk : bks (freeTo s k ++ front) ++ [.int .i64 (X : Nat), .int .i64 (k : Nat)] = bks (freeTo s k ++ (front ++ [(X, k)])) := by
            rw [← List.append_assoc, bks_append (freeTo s k ++ front) [(X, k)]]; rfl
          rw [hbk] at hO
          refine ⟨⟨i + 1, front ++ [(X, k)], rfl, by omega, HFR2.out, ?_, HK3.out⟩, ?_⟩
          · have e1 : (freeTo s k ++ (front ++ [(X, k)])).length = (freeTo s k ++ front).length + 1 := by simp; omega
            rw [e1]; exact hO
          · have hm : ∀ z : Int, z = i → (if z < 0 then 0 else B.length - z.toNat) = B.length - i := fun z hz => by subst hz; rw [if_neg (by omega), Int.toNat_natCast]
            show (if firstFrom B true (i + 1) < 0 then 0 else B.length - (firstFrom B true (i + 1)).toNat) < (if ((i : Nat) : Int) < 0 then 0 else B.length - ((i : Nat) : Int).toNat)
            rw [hm _ rfl]
            rcases firstFrom_cases B true (i + 1) with ⟨hff, _⟩ | ⟨i', hff, hi', hfi', _, _⟩
            · rw [hff]; simp; omega
            · rw [hff, if_neg (by omega), Int.toNat_natCast]; omega
    · obtain rfl : k = T + 1 := by omega
      have hlen : (freeTo s (T + 1)).length ≤ 1099511627776 := by
        have := freeTo_len s HB.out.ok (T + 1) (by rw [HT.out]; omega)
        omega
      have HS := Lib.hid (fun (w' : World) (h' : w'.ownsRow 0 TBk 2 u3 (freeTo s (T + 1)).length (bks (freeTo s (T + 1)))) => buddy_sorted u3 (freeTo s (T + 1)) w' h' hlen)
      go_wp2_with (go_at_call 58; go_loud (refine (HS.out _ (ownsRow_zero HR.out)).mono ?_; rintro e w' ⟨rfl, l', hp, hs, hr, hk2⟩; have HP := Lib.hid (And.intro hp (And.intro hs (And.intro hr hk2))); clear hp hs hr hk2))
      refine bodyPost_ret (results_tmp rfl _ _ _) rfl ?_
      obtain ⟨p1, p2, p3, p4⟩ := HP.out
      have e : freeTo s (T + 1) = s.freeL := by unfold BS.freeL; rw [HT.out]
      rw [e] at p1
      refine ⟨_, l', rfl, p1, p2, p3, fun b hb => ownsRow_base HR.out hb, HK.out.andNew p4 (fun x hx => .inr (ownsRow_base HR.out hx.symm))⟩
end Go.Proofs.YtbkliamhignmfaaGreatDoor
