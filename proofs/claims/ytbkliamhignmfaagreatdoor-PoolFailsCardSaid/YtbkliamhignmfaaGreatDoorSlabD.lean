/- Layer 4: slices.Delete at slabs' pages. -/
import Derived.Test.YtbkliamhignmfaaGreatDoorProg
import Derived.Test.YtbkliamhignmfaaGreatDoorSlabI
namespace Go.Proofs.YtbkliamhignmfaaGreatDoor
open Go.RowKit

theorem pgZero (w : World) : ∃ z, (zeroValue TPg).run Tryz.prog w = .ok z w ∧ z.cells = #[.pointer none, .int .i64 0] := by
  obtain ⟨i, z, hi, _, _, hz, hc⟩ := pgInfo
  exact ⟨z, by simp [zeroValue, typeInfo, hi, hz], hc⟩

theorem wp_clear_ran (w : World) {P : Program} {o : Oper} {a : Act} {K : Act → World → Prop} {Q : Exit → Act → World → Prop} (s : Operand) (t : TypeId)
    (ho : o.op = .call { callee := .builtin .clear, args := #[s], argTypes := #[t] }) (v : Value) (hs : a.eval s = v) {v' : Value} {w' : World}
    (hr : (Builtin.clear_ #[t] o.type #[v]).run P w = .ok v' w') (h : K (a.put o.dst v') w') : o.wp P a w K Q := by
  unfold Oper.wp execOp
  simp only [ho, resolve, invoke, builtin, Sem.run_bind, Sem.run_pure, Result.andThen_ok, List.map_toArray, List.map_cons, List.map_nil, hs, hr]
  exact h
theorem wpList_clear_ran (w : World) {P : Program} {ops : Array Oper} {rest : List Oper} {o : Oper} {a : Act} {Q : Exit → Act → World → Prop} (hgd : o.guard = none) (s : Operand) (t : TypeId)
    (ho : o.op = .call { callee := .builtin .clear, args := #[s], argTypes := #[t] }) (v : Value) (hs : a.eval s = v) {v' : Value} {w' : World}
    (hr : (Builtin.clear_ #[t] o.type #[v]).run P w = .ok v' w') (h : wpList P ops Q rest (a.put o.dst v') w') : wpList P ops Q (o :: rest) a w :=
  wpList_plain hgd fun _ hK => wp_clear_ran w s t ho v hs hr (hK _ _ h)

theorem zero1 : (Builtin.zeroCells #[.pointer none, .int .i64 0] 1).toList = [.pointer none, .int .i64 0] := by
  simp [Builtin.zeroCells, List.range, List.range.loop]

set_option maxHeartbeats 4000000 in
set_option maxRecDepth 100000 in
theorem pages_Delete_last (g n c : Nat) (xs all : List Value) (w : World) (hnc : n + 1 ≤ c) (hc63 : c ≤ 9223372036854775807) (hxl : xs.length = (n + 1) * 2)
    (hrow : RowAt w g c 2 TPg xs all) (h1x : ∀ u ∈ xs, u.oneCell' = true) :
    Calls Tryz.prog 74 #[.slice (some ⟨g, 0, none⟩) (n + 1) c, .int .i64 n, .int .i64 (n + 1 : Nat)] w fun e w' =>
      e = .returned (.slice (some ⟨g, 0, none⟩) n c) ∧ w' = w.drew.setCells g (n * 2) [.pointer none, .int .i64 0] := by
  obtain ⟨i0, z0, hi0, hsz0, hby0, hz0, hzc0⟩ := pgInfo
  have hzv : ∀ w, (zeroValue TPg).run Tryz.prog w = .ok z0 w := fun w => by simp [zeroValue, typeInfo, hi0, hz0]
  have hsz := hrow.size
  have hap : ∀ (a : Addr) ty sc, (Builtin.append_ #[TPgs, TPgs] ty #[.slice (some ⟨g, 0, none⟩) n c, .slice (some a) 0 sc]).run Tryz.prog w.drew = .ok (.slice (some ⟨g, 0, none⟩) n c) w.drew := fun a ty sc => by
    have := run_append_room_src w.drew TPgs TPgs ty TPg i0 pgU hi0 g 0 n c (.slice (some a) 0 sc) 0 [] (Src.ofSlice w.drew pgU a 0 sc [] (by simp) (by simp) (by simp)) (by omega) (by simp) (by simp)
    rw [this]; rfl
  have hcl : ∀ ty sc, (Builtin.clear_ #[TPgs] ty #[.slice (some ⟨g, n * 2, none⟩) 1 sc]).run Tryz.prog w.drew = .ok (.tuple #[]) (w.drew.setCells g (n * 2) [.pointer none, .int .i64 0]) := fun ty sc =>
    run_clear_k w.drew TPgs TPg ty z0 2 pgU hzv (by rw [hzc0]; rfl) [.pointer none, .int .i64 0] g (n * 2) 1 sc (by omega) (by rw [hzc0]; exact zero1) (by simp [Value.oneCell'])
      (fun j hj => hrow.isSome _ (by simp at hj; omega)) (fun j hj => hrow.blk.frozen _)
  have HR := Lib.hid hrow
  clear hrow hzv hi0 hsz0 hby0 hz0 hzc0 hsz
  have hw1 : IntKind.i64.wrap ((n : Int) + 1) = (n : Int) + 1 := by rw [IntKind.wrap_i64]; omega
  have hb1 : (n : Int) ≤ (n : Int) + 1 := by omega
  have hb2 : n ≤ c := by omega
  have hb3 : (0 : Int) ≤ (n : Int) + 1 := by omega
  have hb4 : ((n : Int) + 1).toNat = n + 1 := by omega
  by_cases hk : c = n + 1
  · subst hk
    have hk1 : ¬ (n + 1 = n) := by omega
    go_enter Tryz.func74, Tryz.ntmps74
    go_wp2
    go_region_law (refine step_append_ran rfl _ _ TPgs TPgs rfl _ _ (by simp [Act.eval, Act.put]) (by simp [Act.eval, Act.put]) (hap _ _ _) ?_)
    go_wp2_with (at_builtin; go_loud (refine wpList_clear_ran _ rfl _ TPgs rfl _ rfl (hcl _ _) ?_))
    go_ret
    exact ⟨rfl, rfl⟩
  · have hk1 : ¬ (c = n) := by omega
    go_enter Tryz.func74, Tryz.ntmps74
    go_wp2
    go_region_law (refine step_append_ran rfl _ _ TPgs TPgs rfl _ _ (by simp [Act.eval, Act.put]) (by simp [Act.eval, Act.put]) (hap _ _ _) ?_)
    go_wp2_with (at_builtin; go_loud (refine wpList_clear_ran _ rfl _ TPgs rfl _ rfl (hcl _ _) ?_))
    go_ret
    exact ⟨rfl, rfl⟩

set_option maxHeartbeats 4000000 in
set_option maxRecDepth 100000 in
theorem pages_Delete_mid (g n c k : Nat) (xs all : List Value) (w : World) (hk : k < n) (hnc : n + 1 ≤ c) (hc63 : c ≤ 9223372036854775807) (hxl : xs.length = (n + 1) * 2)
    (hrow : RowAt w g c 2 TPg xs all) (h1x : ∀ u ∈ xs, u.oneCell' = true) :
    Calls Tryz.prog 74 #[.slice (some ⟨g, 0, none⟩) (n + 1) c, .int .i64 k, .int .i64 (k + 1 : Nat)] w fun e w' =>
      e = .returned (.slice (some ⟨g, 0, none⟩) n c) ∧ w' = (w.drew.setCells g (k * 2) (xs.drop ((k + 1) * 2))).setCells g (n * 2) [.pointer none, .int .i64 0] := by
  obtain ⟨i0, z0, hi0, hsz0, hby0, hz0, hzc0⟩ := pgInfo
  have hzv : ∀ w, (zeroValue TPg).run Tryz.prog w = .ok z0 w := fun w => by simp [zeroValue, typeInfo, hi0, hz0]
  have hsz := hrow.size
  have hdl : (xs.drop ((k + 1) * 2)).length = (n - k) * 2 := by rw [List.length_drop, hxl]; omega
  have hap : ∀ ty sc, (Builtin.append_ #[TPgs, TPgs] ty #[.slice (some ⟨g, 0, none⟩) k c, .slice (some ⟨g, (k + 1) * 2, none⟩) (n - k) sc]).run Tryz.prog w.drew = .ok (.slice (some ⟨g, 0, none⟩) n c) (w.drew.setCells g (k * 2) (xs.drop ((k + 1) * 2))) := fun ty sc => by
    have := run_append_room_src w.drew TPgs TPgs ty TPg i0 pgU hi0 g 0 k c (.slice (some ⟨g, (k + 1) * 2, none⟩) (n - k) sc) (n - k) (xs.drop ((k + 1) * 2))
      (by rw [hsz0]; exact Src.ofSlice w.drew pgU ⟨g, (k + 1) * 2, none⟩ (n - k) sc _ hdl (fun j u hj => by rw [Addr.add_lit]; rw [List.getElem?_drop] at hj; exact hrow.cell _ _ hj) (fun v hv => h1x v (List.mem_of_mem_drop hv)))
      (by omega) (fun j hj => by rw [hsz0, Nat.zero_add]; exact hrow.isSome _ (by omega)) (fun j hj => hrow.blk.frozen _)
    rw [this, hsz0, Nat.zero_add, show k + (n - k) = n by omega]
  obtain ⟨W1, hW1⟩ : ∃ W1, W1 = w.drew.setCells g (k * 2) (xs.drop ((k + 1) * 2)) := ⟨_, rfl⟩
  have hb1 : Blk W1 g (splice all (k * 2) (xs.drop ((k + 1) * 2))) TPg := by rw [hW1]; exact Blk.setCells _ _ (show Blk w.drew g all TPg from hrow.blk) (by rw [hdl]; omega)
  have hsl : (splice all (k * 2) (xs.drop ((k + 1) * 2))).length = c * 2 := by rw [length_splice _ _ _ (by rw [hdl]; omega), hsz]
  have hcl : ∀ ty sc, (Builtin.clear_ #[TPgs] ty #[.slice (some ⟨g, n * 2, none⟩) 1 sc]).run Tryz.prog W1 = .ok (.tuple #[]) (W1.setCells g (n * 2) [.pointer none, .int .i64 0]) := fun ty sc =>
    run_clear_k W1 TPgs TPg ty z0 2 pgU hzv (by rw [hzc0]; rfl) [.pointer none, .int .i64 0] g (n * 2) 1 sc (by omega) (by rw [hzc0]; exact zero1) (by simp [Value.oneCell'])
      (fun j hj => by rw [hb1.cell, List.getElem?_eq_getElem (by simp at hj; omega)]; rfl) (fun j hj => hb1.frozen _)
  rw [← hW1] at hap ⊢
  have HR := Lib.hid hrow
  clear hrow hzv hi0 hsz0 hby0 hz0 hzc0 hsz hb1 hsl hW1 hdl
  have hw1 : IntKind.i64.wrap ((k : Int) + 1) = (k : Int) + 1 := by rw [IntKind.wrap_i64]; omega
  have hb1 : (k : Int) ≤ (n : Int) + 1 := by omega
  have hb2 : k ≤ c := by omega
  have hb3 : (0 : Int) ≤ (k : Int) + 1 := by omega
  have hb4 : ((k : Int) + 1).toNat = k + 1 := by omega
  have hb5 : (k : Int) + 1 ≤ (n : Int) + 1 := by omega
  have hb6 : ¬ (c = k) := by omega
  have hb7 : ¬ (c = k + 1) := by omega
  have hb8 : ¬ (c = n) := by omega
  go_enter Tryz.func74, Tryz.ntmps74
  go_wp2
  go_region_law (refine step_append_ran rfl _ _ TPgs TPgs rfl (.slice (some ⟨g, 0, none⟩) k c) (.slice (some ⟨g, (k + 1) * 2, none⟩) (n - k) (c - (k + 1))) (by simp [Act.eval, Act.put]) (by simp [Act.eval, Act.put]) (hap TPgs (c - (k + 1))) ?_)
  go_wp2_with (at_builtin; go_loud (refine wpList_clear_ran _ rfl _ TPgs rfl _ rfl (hcl _ _) ?_))
  go_ret
  exact ⟨rfl, rfl⟩

/-- slices.Delete of a page. -/
theorem pages_Delete (v : Value) (s : Option Addr) (n c k : Nat) (xs : List Value) (w : World) (hv : v = .slice s (n + 1) c) (hn : n ≤ 1099511627776) (hk : k ≤ n)
    (hrow : w.ownsRow 0 TPg 2 v (n + 1) xs) (h1x : ∀ u ∈ xs, u.oneCell' = true) :
    Calls Tryz.prog 74 #[v, .int .i64 k, .int .i64 (k + 1 : Nat)] w fun e w' =>
      e = .returned (.slice s n c) ∧ w'.ownsRow 0 TPg 2 (.slice s n c) n (xs.take (k * 2) ++ xs.drop ((k + 1) * 2)) ∧ Kept (fun x => some x = v.ownBlock) w w' := by
  have hxl := hrow.1
  obtain ⟨g, cap, all, e, hr, hnc, hcm⟩ := ownsRow_form hrow (by omega)
  have e2 : s = some ⟨g, 0, none⟩ ∧ c = cap := by rw [hv] at e; injection e with e e1 e2; exact ⟨e, e2⟩
  obtain ⟨rfl, rfl⟩ := e2
  have hrs := hr.size
  have hxg : all.take ((n + 1) * 2) = xs := by rw [← hxl]; exact hr.get
  have hrg : ∀ a, a ≤ (n + 1) * 2 → all.take a = xs.take a := fun a ha => by
    conv => rhs; rw [← hxg]
    rw [List.take_take]; congr 1; omega
  have hcm' : c ≤ 9223372036854775807 := by unfold maxLen at hcm; omega
  rw [e]
  by_cases hkn : k = n
  · subst hkn
    refine (pages_Delete_last g k c xs all w hnc hcm' hxl hr h1x).mono ?_
    rintro e' w' ⟨rfl, rfl⟩
    refine ⟨rfl, ?_, Kept.setCells (Kept.drew (Kept.refl _ _)) _ _ _ (.inl (show some g = _ from rfl))⟩
    have hb1 : Blk (w.drew.setCells g (k * 2) [.pointer none, .int .i64 0]) g (splice all (k * 2) [.pointer none, .int .i64 0]) TPg := Blk.setCells _ _ (show Blk w.drew g all TPg from hr.blk) (by simp; omega)
    have hl1 : (splice all (k * 2) [Value.pointer none, .int .i64 0]).length = c * 2 := by rw [length_splice _ _ _ (by simp; omega), hrs]
    have hL : (xs.take (k * 2) ++ xs.drop ((k + 1) * 2)).length = k * 2 := by
      rw [List.length_append, List.length_drop, List.length_take]; omega
    refine RowAt.owns ⟨hb1, hl1, by rw [hL, hl1]; omega, ?_⟩ k hL (by omega) hcm
    rw [hL, List.drop_eq_nil_of_le (by omega), List.append_nil, ← hrg _ (by omega)]
    unfold splice
    exact List.take_left' (by rw [List.length_take]; omega)
  · refine (pages_Delete_mid g n c k xs all w (by omega) hnc hcm' hxl hr h1x).mono ?_
    rintro e' w' ⟨rfl, rfl⟩
    refine ⟨rfl, ?_, Kept.setCells (Kept.setCells (Kept.drew (Kept.refl _ _)) _ _ _ (.inl (show some g = _ from rfl))) _ _ _ (.inl (show some g = _ from rfl))⟩
    have hdl : (xs.drop ((k + 1) * 2)).length = (n - k) * 2 := by rw [List.length_drop, hxl]; omega
    have hb1 : Blk (w.drew.setCells g (k * 2) (xs.drop ((k + 1) * 2))) g (splice all (k * 2) (xs.drop ((k + 1) * 2))) TPg := Blk.setCells _ _ (show Blk w.drew g all TPg from hr.blk) (by rw [hdl]; omega)
    have hl1 : (splice all (k * 2) (xs.drop ((k + 1) * 2))).length = c * 2 := by rw [length_splice _ _ _ (by rw [hdl]; omega), hrs]
    have hb2 := Blk.setCells [.pointer none, .int .i64 0] (n * 2) hb1 (by simp; omega)
    have hl2 : (splice (splice all (k * 2) (xs.drop ((k + 1) * 2))) (n * 2) [Value.pointer none, .int .i64 0]).length = c * 2 := by rw [length_splice _ _ _ (by simp; omega), hl1]
    have hL : (xs.take (k * 2) ++ xs.drop ((k + 1) * 2)).length = n * 2 := by
      rw [List.length_append, hdl, List.length_take]; omega
    refine RowAt.owns ⟨hb2, hl2, by rw [hL, hl2]; omega, ?_⟩ n hL (by omega) hcm
    rw [hL]
    have e1 : (splice (splice all (k * 2) (xs.drop ((k + 1) * 2))) (n * 2) [Value.pointer none, .int .i64 0]).take (n * 2) = (splice all (k * 2) (xs.drop ((k + 1) * 2))).take (n * 2) := by
      generalize splice all (k * 2) (xs.drop ((k + 1) * 2)) = S at hl1 ⊢
      unfold splice
      exact List.take_left' (by rw [List.length_take, hl1]; omega)
    rw [e1, ← hrg _ (by omega)]
    unfold splice
    rw [← List.append_assoc]
    exact List.take_left' (by rw [List.length_append, hdl, List.length_take]; omega)
end Go.Proofs.YtbkliamhignmfaaGreatDoor
