/- Layer 4: slices.Insert and slices.Delete at slabs' pages. -/
import Derived.Test.YtbkliamhignmfaaGreatDoorProg
import Derived.Test.YtbkliamhignmfaaGreatDoorSlabF
import Derived.Test.YtbkliamhignmfaaGreatDoorRow
import Derived.RegionTactic
import Derived.BigRegion
import Derived.Deep.AppendLies
namespace Go.Proofs.YtbkliamhignmfaaGreatDoor
open Go.RowKit

abbrev TPg : TypeId := 132
abbrev TPgs : TypeId := 128
theorem pgU : Tryz.prog.underlying TPgs = some (.slice TPg) := Tryz.underlying128
theorem pgSize : (Tryz.prog.info? TPg).map (·.size) = some 2 := by kernel_rfl
theorem info_take {P : Program} {t : TypeId} {n b : Nat} {cs : Array Value} (h : (P.info? t).map (fun i => (i.size, i.bytes, i.zero.map Value.cells)) = some (n, b, some cs)) :
    ∃ i z, P.info? t = some i ∧ i.size = n ∧ i.bytes = b ∧ i.zero = some z ∧ z.cells = cs := by
  cases hi : P.info? t with
  | none => simp [hi] at h
  | some i =>
    simp [hi] at h
    obtain ⟨z, hz, hc⟩ := h.2.2
    exact ⟨i, z, rfl, h.1, h.2.1, hz, hc⟩
theorem pgInfo : ∃ i z, Tryz.prog.info? TPg = some i ∧ i.size = 2 ∧ i.bytes = 16 ∧ i.zero = some z ∧ z.cells = #[.pointer none, .int .i64 0] :=
  info_take (by kernel_rfl)

theorem growslice_fits2 {n c : Nat} (hroom : c < n + 1) (h : n ≤ 1099511627776) : Builtin.nextslicecap (n + 1) c * 16 ≤ 281474976710656 := growslice_fits hroom (by omega)

set_option maxHeartbeats 4000000 in
set_option maxRecDepth 100000 in
/-- At the end. -/
theorem pages_Insert_end (v : Value) (s : Option Addr) (n c vb : Nat) (xs vs : List Value) (w : World) (hv : v = .slice s n c) (hn : n ≤ 1099511627776)
    (hrow : w.ownsRow 0 TPg 2 v n xs) (hb : Blk w vb vs TPg) (hl : vs.length = 2) (h1 : ∀ u ∈ vs, u.oneCell' = true) :
    Calls Tryz.prog 70 #[v, .int .i64 n, .slice (some ⟨vb, 0, none⟩) 1 1] w fun e w' =>
      ∃ g c', e = .returned (.slice (some ⟨g, 0, none⟩) (n + 1) c') ∧ w'.ownsRow 0 TPg 2 (.slice (some ⟨g, 0, none⟩) (n + 1) c') (n + 1) (xs ++ vs) ∧
        Kept (fun x => some x = v.ownBlock) w w' ∧ (v.ownBlock = some g ∨ w.heap.size ≤ g) := by
  obtain ⟨i, z, hi, hs, hby, hz, hzc⟩ := pgInfo
  have hnc : n ≤ c := by
    rcases hrow.2 with ⟨e, e0⟩ | ⟨g, cap, cur, e, _, _, h1, _⟩
    · omega
    · rw [hv] at e; injection e with _ _ e; omega
  subst hv
  have HR := Lib.hid hrow
  have HB := Lib.hid hb
  have HI := Lib.hid (And.intro hi (And.intro hs (And.intro hby (And.intro hz hzc))))
  clear hrow hb hi hs hby hz hzc
  go_enter Tryz.func70, Tryz.ntmps70
  cases s with
  | none =>
    have h0 : n = 0 ∧ c = 0 := by
      rcases HR.out.2 with ⟨e, e0⟩ | ⟨g, cap, cur, e, _⟩
      · injection e with _ _ e; exact ⟨e0, e⟩
      · cases e
    obtain ⟨rfl, rfl⟩ := h0
    go_wp2_with (at_builtin; refine wpList_append_lies _ rfl _ _ TPgs rfl 0 TPg i z 2 16 pgU HI.out.1 HI.out.2.2.2.1 HI.out.2.1 HI.out.2.2.1 (by rw [HI.out.2.2.2.2]; rfl) (by omega) _ _ xs rfl HR.out ⟨vb, 0, none⟩ 1 1 vs rfl hl (fun j u hj => by rw [Addr.add_lit, Nat.zero_add, HB.out.cell]; exact hj) h1 (by omega) (by unfold maxLen; omega) (by omega) (Nat.zero_le _) _ rfl ?_; intro g cap w1 hown hgrow hat hlt)
    all_goals
      go_ret
      refine ⟨g, cap, rfl, hown, Kept.grown (Kept.refl _ _) hgrow (fun k hk => .inl hk.symm), ?_⟩
      rcases hat with h | h
      · exact .inl h
      · exact .inr (by omega)
  | some a =>
    obtain ⟨g0, o0, p0⟩ := a
    obtain ⟨rfl, rfl⟩ : o0 = 0 ∧ p0 = none := by
      rcases HR.out.2 with ⟨e, e0⟩ | ⟨g, cap, cur, e, _⟩
      · cases e
      · injection e with e; injection e with e; injection e with _ e2 e3; exact ⟨e2, e3⟩
    go_wp2_with (at_builtin; refine wpList_append_lies _ rfl _ _ TPgs rfl 0 TPg i z 2 16 pgU HI.out.1 HI.out.2.2.2.1 HI.out.2.1 HI.out.2.2.1 (by rw [HI.out.2.2.2.2]; rfl) (by omega) _ n xs rfl HR.out ⟨vb, 0, none⟩ 1 1 vs rfl hl (fun j u hj => by rw [Addr.add_lit, Nat.zero_add, HB.out.cell]; exact hj) h1 (by omega) (by unfold maxLen; omega) (by omega) (Nat.zero_le _) _ rfl ?_; intro g cap w1 hown hgrow hat hlt)
    all_goals
      go_ret
      refine ⟨g, cap, rfl, hown, Kept.grown (Kept.refl _ _) hgrow (fun k hk => .inl hk.symm), ?_⟩
      rcases hat with h | h
      · exact .inl h
      · exact .inr (by omega)

set_option maxHeartbeats 4000000 in
set_option maxRecDepth 100000 in
/-- Ahead of the end, there is room. -/
theorem pages_Insert_room (g n c i vb : Nat) (xs vs all : List Value) (w : World) (hn : n < c) (hc63 : c ≤ 9223372036854775807) (hi : i < n) (hxl : xs.length = n * 2)
    (hrow : RowAt w g c 2 TPg xs all) (hb : Blk w vb vs TPg) (hl : vs.length = 2) (hne : vb ≠ g) (h1 : ∀ u ∈ vs, u.oneCell' = true) (h1x : ∀ u ∈ xs, u.oneCell' = true) :
    Calls Tryz.prog 70 #[.slice (some ⟨g, 0, none⟩) n c, .int .i64 i, .slice (some ⟨vb, 0, none⟩) 1 1] w fun e w' =>
      e = .returned (.slice (some ⟨g, 0, none⟩) (n + 1) c) ∧ w' = (w.drew.setCells g ((i + 1) * 2) (xs.drop (i * 2))).setCells g (i * 2) vs := by
  have hsz := hrow.size
  have hdl : (xs.drop (i * 2)).length = (n - i) * 2 := by rw [List.length_drop, hxl]; omega
  have hsp := hrow.isSome
  have hfz : ∀ j, w.frozen? ⟨g, j, none⟩ = false := hrow.blk.frozen
  have hov : ∀ lb cb, (callFunc 98 #[.slice (some ⟨vb, 0, none⟩) 1 1, .slice (some ⟨g, (i + 1) * 2, none⟩) lb cb]).run Tryz.prog w = .ok (.value (.bool false)) w := fun lb cb => by
    rw [run_callFunc_extern Tryz.func98 (by kernel_rfl) (by kernel_rfl) (by kernel_rfl) (e := Extern.SlicesOverlaps.overlaps #[TPgs, TPgs] #[4]) (by kernel_rfl),
      Lib.run_overlaps_apart w TPgs 4 TPg pgU 2 (by intro w; kernel_rfl) ⟨vb, 0, none⟩ ⟨g, (i + 1) * 2, none⟩ 1 1 lb cb hne TPg TPg 2 (c * 2) (by simp [World.shape?, show w.heap[vb]? = _ from hb, hl]) (by simp [World.shape?, show w.heap[g]? = _ from hrow.blk, hsz]) (by omega) (hb.frozen 0) (hb.frozen 2)]
    rfl
  have hcp1 : ∀ ty dc sc, (Builtin.copy_ #[TPgs, TPgs] ty #[.slice (some ⟨g, (i + 1) * 2, none⟩) (n - i) dc, .slice (some ⟨g, i * 2, none⟩) (n + 1 - i) sc]).run Tryz.prog w.drew = .ok (goInt ((n - i : Nat) : Int)) (w.drew.setCells g ((i + 1) * 2) (xs.drop (i * 2))) := fun ty dc sc =>
    run_copy_k w.drew _ _ ty TPg 2 g ((i + 1) * 2) (n - i) dc ⟨g, i * 2, none⟩ (n + 1 - i) sc (n - i) (xs.drop (i * 2)) pgU pgSize (by simp only [Nat.min_def]; split <;> omega) hdl
      (fun j v hj => by rw [Addr.add_lit]; rw [List.getElem?_drop] at hj; exact hrow.cell _ _ hj)
      (fun j hj => hsp _ (by omega)) (fun j hj => hfz _) (fun v hv => h1x v (List.mem_of_mem_drop hv))
  obtain ⟨W1, hW1⟩ : ∃ W1, W1 = w.drew.setCells g ((i + 1) * 2) (xs.drop (i * 2)) := ⟨_, rfl⟩
  have hb1 : Blk W1 g (splice all ((i + 1) * 2) (xs.drop (i * 2))) TPg := by rw [hW1]; exact Blk.setCells _ _ (show Blk w.drew g all TPg from hrow.blk) (by rw [hdl]; omega)
  have hbv : Blk W1 vb vs TPg := by rw [hW1]; unfold Blk; rw [setCells_other _ _ _ _ _ hne]; exact hb
  have hsl : (splice all ((i + 1) * 2) (xs.drop (i * 2))).length = c * 2 := by rw [length_splice _ _ _ (by rw [hdl]; omega), hsz]
  have hcp2 : ∀ (W : World), (∀ x, W.cell? x = W1.cell? x) → (∀ x, W.frozen? x = W1.frozen? x) → ∀ ty dc, (Builtin.copy_ #[TPgs, TPgs] ty #[.slice (some ⟨g, i * 2, none⟩) (n + 1 - i) dc, .slice (some ⟨vb, 0, none⟩) 1 1]).run Tryz.prog W = .ok (goInt 1) (W.setCells g (i * 2) vs) := fun W hWc hWf ty dc =>
    run_copy_k W _ _ ty TPg 2 g (i * 2) (n + 1 - i) dc ⟨vb, 0, none⟩ 1 1 1 vs pgU pgSize (by simp only [Nat.min_def]; split <;> omega) hl
      (fun j v hj => by rw [Addr.add_lit, hWc, Nat.zero_add, hbv.cell]; exact hj)
      (fun j hj => by rw [hWc, hb1.cell, List.getElem?_eq_getElem (by omega)]; rfl) (fun j hj => by rw [hWf]; exact hb1.frozen _) h1
  rw [← hW1] at hcp1 ⊢
  clear hb1 hbv hsl
  have hw1 : IntKind.i64.wrap ((i : Int) + 1) = (i : Int) + 1 := by rw [IntKind.wrap_i64]; omega
  have hk1 : (0 : Int) ≤ (i : Int) + 1 := by omega
  have hin : i ≤ n := by omega
  have htn : ((i : Int) + 1).toNat = i + 1 := by omega
  have hk2 : ¬ (c = i + 1) := by omega
  have hk3 : (i : Int) ≤ (n : Int) + 1 := by omega
  have hk4 : ¬ (c = i) := by omega
  have hz2 : ¬ ((i : Int) = (n : Int)) := by omega
  have HR := Lib.hid hrow
  have HW := Lib.hid hW1
  clear hrow hW1 hsp hfz hdl hsz
  go_enter Tryz.func70, Tryz.ntmps70
  go_wp2_with (simp only [hov])
  go_region_law (refine step_copy_ran rfl _ _ TPgs TPgs rfl _ _ (by simp [Act.eval, Act.put]) (by simp [Act.eval, Act.put]) (hcp1 _ _ _) ?_)
  go_wp2_with (at_builtin; go_loud (refine wpList_copy_ran _ rfl _ _ TPgs TPgs rfl _ _ rfl rfl (hcp2 _ (fun _ => rfl) (fun _ => rfl) _ _) ?_))
  go_ret
  exact ⟨rfl, rfl⟩

set_option maxHeartbeats 4000000 in
set_option maxRecDepth 100000 in
/-- Ahead of the end, there is no room. -/
theorem pages_Insert_grow (g n i vb : Nat) (xs vs all : List Value) (w : World) (hn63 : n ≤ 1099511627776) (hi : i < n) (hxl : xs.length = n * 2)
    (hrow : RowAt w g n 2 TPg xs all) (hb : Blk w vb vs TPg) (hl : vs.length = 2) (h1 : ∀ u ∈ vs, u.oneCell' = true) (h1x : ∀ u ∈ xs, u.oneCell' = true) :
    Calls Tryz.prog 70 #[.slice (some ⟨g, 0, none⟩) n n, .int .i64 i, .slice (some ⟨vb, 0, none⟩) 1 1] w fun e w' =>
      ∃ c' ROW, Blk (w.drew.alloc (.cells ROW.toArray TPg)) w.heap.size ROW TPg ∧ n + 1 ≤ c' ∧ c' ≤ maxLen ∧ ROW.length = c' * 2 ∧ ROW.take (i * 2) = xs.take (i * 2) ∧
      e = .returned (.slice (some ⟨w.heap.size, 0, none⟩) (n + 1) c') ∧ w' = (((w.alloc (.cells ROW.toArray TPg)).drew.setCells w.heap.size (i * 2) vs).drew).setCells w.heap.size ((i + 1) * 2) (xs.drop (i * 2)) := by
  obtain ⟨i0, z0, hi0, hsz0, hby0, hz0, hzc0⟩ := pgInfo
  have hgw : g < w.heap.size := hrow.blk.lt
  have hvw : vb < w.heap.size := hb.lt
  have hkk : (n : Int) + 1 - (i : Int) = ((n + 1 - i : Nat) : Int) := by omega
  have hik : i + (n + 1 - i) = n + 1 := by omega
  have htl : (xs.take (i * 2)).length = i * 2 := by rw [List.length_take]; omega
  have hdl : (xs.drop (i * 2)).length = (n - i) * 2 := by rw [List.length_drop, hxl]; omega
  have hold : (Builtin.firstCells i0.size i (.slice (some ⟨g, 0, none⟩) i n)).run Tryz.prog w.drew = .ok (xs.take (i * 2)).toArray w.drew := by
    rw [hsz0]
    exact run_firstCells_some w.drew 2 i ⟨g, 0, none⟩ i n (xs.take (i * 2)) htl (fun j v hj => by
      rw [Addr.add_lit, Nat.zero_add]
      rw [List.getElem?_take] at hj
      split at hj
      · exact hrow.cell j v hj
      · cases hj)
  obtain ⟨G, hG⟩ : ∃ G, G = grownCap w (n + 1) n TPg := ⟨_, rfl⟩
  obtain ⟨ROW, hROW⟩ : ∃ ROW : List Value, ROW = ((xs.take (i * 2)).toArray ++ Builtin.zeroCells z0.cells (n + 1 - i) ++ Builtin.zeroCells z0.cells (G - (n + 1))).toList := ⟨_, rfl⟩
  have hrz : ∀ ty, (Builtin.append_ #[TPgs, 3] ty #[.slice (some ⟨g, 0, none⟩) i n, .int .i64 ((n : Int) + 1 - (i : Int))]).run Tryz.prog w =
      .ok (.slice (some ⟨w.heap.size, 0, none⟩) (n + 1) G) (w.drew.alloc (.cells ROW.toArray TPg)) := fun ty => by
    have h := Lib.run_append_grow_zeros w TPgs 3 ty TPg i0 z0 .i64 .i64 pgU Tryz.underlying3 hi0 hz0 (some ⟨g, 0, none⟩) i n (xs.take (i * 2)) hold (n + 1 - i) (by omega) (by omega) (by omega) (by omega) (by rw [hby0]; omega) (by rw [hby0, hik]; exact growslice_fits2 (by omega) hn63)
    rw [hik, ← hG] at h
    rw [hkk, h, hROW]
  have hGn : n + 1 ≤ G := by rw [hG]; exact grownCap_ge w _ _ _
  have hGm : G ≤ maxLen := by rw [hG]; exact grownCap_le_maxLen w (n + 1) n TPg (by unfold maxLen; omega)
  have hRl : ROW.length = G * 2 := by
    rw [hROW]
    simp only [Array.length_toList, Array.size_append, List.size_toArray, size_zeroCells, hzc0, htl]
    show i * 2 + (n + 1 - i) * 2 + (G - (n + 1)) * 2 = G * 2
    omega
  have hRt : ROW.take (i * 2) = xs.take (i * 2) := by
    rw [hROW]
    simp only [Array.toList_append, List.append_assoc]
    rw [List.take_append_of_le_length (by omega)]
    exact List.take_of_length_le (by omega)
  obtain ⟨W1, hW1⟩ : ∃ W1, W1 = w.drew.alloc (.cells ROW.toArray TPg) := ⟨_, rfl⟩
  have hb1 : Blk W1 w.heap.size ROW TPg := by rw [hW1]; exact Blk.new w.drew ROW TPg
  have hbg : Blk W1 g all TPg := by rw [hW1]; exact (show Blk w.drew g all TPg from hrow.blk).alloc _
  have hbv : Blk W1 vb vs TPg := by rw [hW1]; exact (show Blk w.drew vb vs TPg from hb).alloc _
  have hb2 : Blk (W1.setCells w.heap.size (i * 2) vs) w.heap.size (splice ROW (i * 2) vs) TPg := Blk.setCells _ _ hb1 (by omega)
  have hs2 : (splice ROW (i * 2) vs).length = G * 2 := by rw [length_splice _ _ _ (by omega), hRl]
  have hbg2 : Blk (W1.setCells w.heap.size (i * 2) vs) g all TPg := by unfold Blk; rw [setCells_other _ _ _ _ _ (by omega)]; exact hbg
  have hsrcg : ∀ j v, xs[j]? = some v → all[j]? = some v := fun j v hj => by rw [← hrow.blk.cell]; exact hrow.cell j v hj
  have hcpA : ∀ (W : World), (∀ x, W.cell? x = W1.cell? x) → (∀ x, W.frozen? x = W1.frozen? x) → ∀ ty dc, (Builtin.copy_ #[TPgs, TPgs] ty #[.slice (some ⟨w.heap.size, i * 2, none⟩) (n + 1 - i) dc, .slice (some ⟨vb, 0, none⟩) 1 1]).run Tryz.prog W = .ok (goInt 1) (W.setCells w.heap.size (i * 2) vs) := fun W hWc hWf ty dc =>
    run_copy_k W _ _ ty TPg 2 w.heap.size (i * 2) (n + 1 - i) dc ⟨vb, 0, none⟩ 1 1 1 vs pgU pgSize (by simp only [Nat.min_def]; split <;> omega) hl
      (fun j v hj => by rw [Addr.add_lit, hWc, Nat.zero_add, hbv.cell]; exact hj)
      (fun j hj => by rw [hWc, hb1.cell, List.getElem?_eq_getElem (by omega)]; rfl) (fun j hj => by rw [hWf]; exact hb1.frozen _) h1
  have hcpB : ∀ (W : World), (∀ x, W.cell? x = (W1.setCells w.heap.size (i * 2) vs).cell? x) → (∀ x, W.frozen? x = (W1.setCells w.heap.size (i * 2) vs).frozen? x) → ∀ ty dc sc, (Builtin.copy_ #[TPgs, TPgs] ty #[.slice (some ⟨w.heap.size, (i + 1) * 2, none⟩) (n - i) dc, .slice (some ⟨g, i * 2, none⟩) (n - i) sc]).run Tryz.prog W = .ok (goInt ((n - i : Nat) : Int)) (W.setCells w.heap.size ((i + 1) * 2) (xs.drop (i * 2))) := fun W hWc hWf ty dc sc =>
    run_copy_k W _ _ ty TPg 2 w.heap.size ((i + 1) * 2) (n - i) dc ⟨g, i * 2, none⟩ (n - i) sc (n - i) (xs.drop (i * 2)) pgU pgSize (by simp only [Nat.min_def]; split <;> omega) hdl
      (fun j v hj => by rw [Addr.add_lit, hWc, hbg2.cell]; rw [List.getElem?_drop] at hj; exact hsrcg _ _ hj)
      (fun j hj => by rw [hWc, hb2.cell, List.getElem?_eq_getElem (by omega)]; rfl) (fun j hj => by rw [hWf]; exact hb2.frozen _) (fun v hv => h1x v (List.mem_of_mem_drop hv))
  have hE1 : ∀ x, ((w.alloc (.cells ROW.toArray TPg)).drew).cell? x = W1.cell? x := fun x => by rw [hW1]; rfl
  have hE2 : ∀ x, ((w.alloc (.cells ROW.toArray TPg)).drew).frozen? x = W1.frozen? x := fun x => by rw [hW1]; rfl
  have hF1 : ∀ x, (((w.alloc (.cells ROW.toArray TPg)).drew.setCells w.heap.size (i * 2) vs).drew).cell? x = (W1.setCells w.heap.size (i * 2) vs).cell? x := fun x => by rw [hW1]; rfl
  have hF2 : ∀ x, (((w.alloc (.cells ROW.toArray TPg)).drew.setCells w.heap.size (i * 2) vs).drew).frozen? x = (W1.setCells w.heap.size (i * 2) vs).frozen? x := fun x => by rw [hW1]; rfl
  have HcpB := hcpB _ hF1 hF2
  have hfin : Blk (w.drew.alloc (.cells ROW.toArray TPg)) w.heap.size ROW TPg := by rw [← hW1]; exact hb1
  have HFIN := Lib.hid (And.intro hfin (And.intro hGn (And.intro hGm (And.intro hRl hRt))))
  have hw1 : IntKind.i64.wrap ((i : Int) + 1) = (i : Int) + 1 := by rw [IntKind.wrap_i64]; omega
  have hk1 : (0 : Int) ≤ (i : Int) + 1 := by omega
  have hin : i ≤ n := by omega
  have htn : ((i : Int) + 1).toNat = i + 1 := by omega
  have hG63 : G ≤ 9223372036854775807 := by unfold maxLen at hGm; omega
  have hGi : ¬ (G = i) := by omega
  have hGim : ¬ (G = i + 1) := by omega
  have hci : ¬ (n = i) := by omega
  have hz2 : ¬ ((i : Int) = (n : Int)) := by omega
  clear hkk hik hold hROW hG hRl hRt hGm hfin hrow hb hi0 hsz0 hby0 hz0 hzc0 hb1 hbg hbv hb2 hs2 hbg2 hsrcg hcpB hF1 hF2 hdl htl
  go_enter Tryz.func70, Tryz.ntmps70
  go_wp2_with (first
    | (at_builtin; refine Lib.wpList_append_run _ rfl _ _ _ _ rfl _ _ rfl rfl _ _ (hrz _) ?_)
    | (at_builtin; refine wpList_copy_ran _ rfl _ _ TPgs TPgs rfl _ _ rfl rfl (hcpA _ hE1 hE2 _ _) ?_))
  go_region_law (refine step_copy_ran rfl _ _ TPgs TPgs rfl _ _ (by simp [Act.eval, Act.put]) (by simp [Act.eval, Act.put]) (HcpB _ _ _) ?_)
  go_wp2
  go_ret
  obtain ⟨f1, f2, f3, f4, f5⟩ := HFIN.out
  exact ⟨G, ROW, f1, f2, f3, f4, f5, rfl, rfl⟩

theorem splice_take (all xs vs ys : List Value) (a b : Nat) (hx : all.take a = xs.take a) (hxl : a ≤ xs.length) (hv : vs.length = b) (hl : a + b + ys.length ≤ all.length) :
    (splice (splice all (a + b) ys) a vs).take (a + b + ys.length) = xs.take a ++ vs ++ ys := by
  have hal : (all.take a).length = a := by rw [List.length_take]; omega
  unfold splice
  have e1 : (all.take (a + b) ++ (ys ++ all.drop (a + b + ys.length))).take a = all.take a := by
    rw [List.take_append_of_le_length (by rw [List.length_take]; omega), List.take_take]
    congr 1; omega
  have e2 : (all.take (a + b) ++ (ys ++ all.drop (a + b + ys.length))).drop (a + vs.length) = ys ++ all.drop (a + b + ys.length) := by
    rw [hv]; exact List.drop_left' (by rw [List.length_take]; omega)
  rw [e1, e2, hx]
  rw [← List.append_assoc, ← List.append_assoc]
  have hl2 : (xs.take a ++ vs ++ ys).length = a + b + ys.length := by
    rw [List.length_append, List.length_append, hv, ← hx, hal]
  exact List.take_left' hl2
theorem splice_take2 (all xs vs ys : List Value) (a b : Nat) (hx : all.take a = xs.take a) (hxl : a ≤ xs.length) (hv : vs.length = b) (hl : a + b + ys.length ≤ all.length) :
    (splice (splice all a vs) (a + b) ys).take (a + b + ys.length) = xs.take a ++ vs ++ ys := by
  have hal : (all.take a).length = a := by rw [List.length_take]; omega
  unfold splice
  have e1 : (all.take a ++ (vs ++ all.drop (a + vs.length))).take (a + b) = all.take a ++ vs := by
    rw [← List.append_assoc]
    exact List.take_left' (by rw [List.length_append, hal, hv])
  rw [e1, hx, ← List.append_assoc]
  exact List.take_left' (by rw [List.length_append, List.length_append, hv, ← hx, hal])

/-- slices.Insert of a page. -/
theorem pages_Insert (v : Value) (s : Option Addr) (n c i vb : Nat) (xs vs : List Value) (w : World) (hv : v = .slice s n c) (hn : n ≤ 1099511627776) (hi : i ≤ n)
    (hrow : w.ownsRow 0 TPg 2 v n xs) (hb : Blk w vb vs TPg) (hl : vs.length = 2) (hne : v.ownBlock ≠ some vb) (h1 : ∀ u ∈ vs, u.oneCell' = true) (h1x : ∀ u ∈ xs, u.oneCell' = true) :
    Calls Tryz.prog 70 #[v, .int .i64 i, .slice (some ⟨vb, 0, none⟩) 1 1] w fun e w' =>
      ∃ g c', e = .returned (.slice (some ⟨g, 0, none⟩) (n + 1) c') ∧ w'.ownsRow 0 TPg 2 (.slice (some ⟨g, 0, none⟩) (n + 1) c') (n + 1) (xs.take (i * 2) ++ vs ++ xs.drop (i * 2)) ∧
        Kept (fun x => some x = v.ownBlock) w w' ∧ (v.ownBlock = some g ∨ w.heap.size ≤ g) := by
  have hxl := hrow.1
  by_cases hin : i = n
  · subst hin
    rw [List.take_of_length_le (by omega), List.drop_eq_nil_of_le (by omega), List.append_nil]
    exact pages_Insert_end v s i c vb xs vs w hv hn hrow hb hl h1
  · obtain ⟨g, cap, all, e, hr, hnc, hcm⟩ := ownsRow_form hrow (by omega)
    have hdl : (xs.drop (i * 2)).length = (n - i) * 2 := by rw [List.length_drop, hxl]; omega
    have hrs := hr.size
    have hrg : all.take (i * 2) = xs.take (i * 2) := by
      conv => rhs; rw [← hr.get]
      rw [List.take_take]; congr 1; omega
    rw [e]
    by_cases hc : n < cap
    · refine (pages_Insert_room g n cap i vb xs vs all w hc (by unfold maxLen at hcm; omega) (by omega) hxl hr hb hl (fun q => hne (by rw [e, q]; rfl)) h1 h1x).mono ?_
      rintro e' w' ⟨rfl, rfl⟩
      refine ⟨g, cap, rfl, ?_, ?_, .inl rfl⟩
      case' refine_2 => exact Kept.setCells (Kept.setCells (Kept.drew (Kept.refl _ _)) _ _ _ (.inl (show some g = _ from rfl))) _ _ _ (.inl (show some g = _ from rfl))
      have hb1 : Blk (w.drew.setCells g ((i + 1) * 2) (xs.drop (i * 2))) g (splice all ((i + 1) * 2) (xs.drop (i * 2))) TPg := Blk.setCells _ _ (show Blk w.drew g all TPg from hr.blk) (by rw [hdl]; omega)
      have hl1 : (splice all ((i + 1) * 2) (xs.drop (i * 2))).length = cap * 2 := by rw [length_splice _ _ _ (by rw [hdl]; omega), hrs]
      have hb2 := Blk.setCells vs (i * 2) hb1 (by omega)
      have hl2 : (splice (splice all ((i + 1) * 2) (xs.drop (i * 2))) (i * 2) vs).length = cap * 2 := by rw [length_splice _ _ _ (by omega), hl1]
      have hL : (xs.take (i * 2) ++ vs ++ xs.drop (i * 2)).length = (n + 1) * 2 := by
        rw [List.length_append, List.length_append, hdl, hl, List.length_take]; omega
      have hst := splice_take all xs vs (xs.drop (i * 2)) (i * 2) 2 hrg (by omega) hl (by rw [hdl]; omega)
      refine RowAt.owns ⟨hb2, hl2, by rw [hL, hl2]; omega, ?_⟩ (n + 1) hL hc hcm
      rw [hL, ← hst]
      rw [show (i + 1) * 2 = i * 2 + 2 by omega]
      congr 1
      rw [hdl]; omega
    · obtain rfl : cap = n := by omega
      refine (pages_Insert_grow g cap i vb xs vs all w hn (by omega) hxl hr hb hl h1 h1x).mono ?_
      rintro e' w' ⟨c', ROW, f1, f2, f3, f4, f5, rfl, rfl⟩
      refine ⟨w.heap.size, c', rfl, ?_, ?_, .inr (Nat.le_refl _)⟩
      · have hb1 : Blk ((w.alloc (.cells ROW.toArray TPg)).drew.setCells w.heap.size (i * 2) vs) w.heap.size (splice ROW (i * 2) vs) TPg := Blk.setCells _ _ (show Blk ((w.alloc (.cells ROW.toArray TPg)).drew) w.heap.size ROW TPg from f1) (by omega)
        have hl1 : (splice ROW (i * 2) vs).length = c' * 2 := by rw [length_splice _ _ _ (by omega), f4]
        have hb2 : Blk _ _ _ _ := Blk.setCells (xs.drop (i * 2)) ((i + 1) * 2) (show Blk (((w.alloc (.cells ROW.toArray TPg)).drew.setCells w.heap.size (i * 2) vs).drew) w.heap.size (splice ROW (i * 2) vs) TPg from hb1) (by rw [hdl]; omega)
        have hl2 : (splice (splice ROW (i * 2) vs) ((i + 1) * 2) (xs.drop (i * 2))).length = c' * 2 := by rw [length_splice _ _ _ (by rw [hdl]; omega), hl1]
        have hL : (xs.take (i * 2) ++ vs ++ xs.drop (i * 2)).length = (cap + 1) * 2 := by
          rw [List.length_append, List.length_append, hdl, hl, List.length_take]; omega
        have hst := splice_take2 ROW xs vs (xs.drop (i * 2)) (i * 2) 2 f5 (by omega) hl (by rw [hdl]; omega)
        refine RowAt.owns ⟨hb2, hl2, by rw [hL, hl2]; omega, ?_⟩ (cap + 1) hL f2 f3
        rw [hL, ← hst]
        rw [show (i + 1) * 2 = i * 2 + 2 by omega]
        congr 1
        rw [hdl]; omega
      · exact Kept.setCells (Kept.drew (Kept.setCells (Kept.drew (Kept.alloc (Kept.refl _ _) _)) _ _ _ (.inr (Nat.le_refl _)))) _ _ _ (.inr (Nat.le_refl _))
end Go.Proofs.YtbkliamhignmfaaGreatDoor
