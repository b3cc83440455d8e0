/- Layer 4: Used. -/
import Derived.Test.YtbkliamhignmfaaGreatDoorSlabV
namespace Go.Proofs.YtbkliamhignmfaaGreatDoor
open Go.RowKit Go.Shelf
attribute [local go_sem] Oper.semAt_some

theorem filter_len (l : List Bool) (f : Nat) : (usedFrom l f).length ≤ l.length := by
  unfold usedFrom
  have := List.length_filter_le (fun i => decide (f ≤ i) && bit l i) (List.range l.length)
  simpa using this
theorem places_len_aux (size : Nat) : ∀ l : List Pg, (∀ p ∈ l, p.bits.length ≤ 60) → (l.flatMap fun p => pagePl size p 0).length ≤ l.length * 60
  | [], _ => by simp
  | p :: t, h => by
    have := places_len_aux size t (fun q hq => h q (by simp [hq]))
    have h1 := h p (by simp)
    have h2 := filter_len p.bits 0
    simp only [List.flatMap_cons, List.length_append, List.length_cons, pagePl, List.length_map] at this ⊢
    omega
theorem SS.ok.places_len {s : SS} (h : s.ok) : s.places.length ≤ 64424509440 := by
  have h1 := places_len_aux s.size s.l (fun p hp => by
    rw [h.many p hp]
    exact Nat.le_trans (Nat.div_le_div_left h.s0 (by omega)) (by decide))
  have h2 := h.len
  unfold SS.places
  omega

theorem slab_places (c : Nat) (w : World) :
    CallsIn Fence.wide 9 Tryz.prog 75 #[.pointer (some ⟨c, 0, none⟩)] w fun e w' => e = .returned (.func (.func 100) #[] #[.pointer (some ⟨w.heap.size, 0, none⟩)]) ∧ w' = w.alloc (.cells #[.pointer (some ⟨c, 0, none⟩)] 76) := by
  refine callsIn_of_wp Tryz.func75 rfl trivial ?_ rfl
  simp only [Tryz.ntmps75, List.size_toArray, List.length_cons, List.length_nil, Nat.reduceAdd, Nat.reduceSub, Array.replicate_succ, Array.replicate_zero, List.push_toArray, List.append_toArray, List.nil_append, List.cons_append]
  gi_wp2
  go_ret
  exact ⟨rfl, rfl⟩

theorem KpP.t {n₀ : Nat} {A B C : World} (h : KpP n₀ A B) (k : KpP n₀ B C) : KpP n₀ A C := h.trans k
theorem blk_putObj {W : World} {l k : Nat} {o o' : Obj} {cs : List Value} {T : TypeId} (h : W.heap[l]? = some o) (hc : o.isCells = false) (hb : Blk W k cs T) : Blk (W.putObj l o') k cs T := by
  have hne : k ≠ l := fun e => by
    subst e
    unfold Blk at hb
    rw [hb] at h; cases h; cases hc
  exact ((grownBy_putObj' W l o').block k hb.lt (fun e => hne (by injection e))).trans hb
theorem KpP.b {n₀ : Nat} {w : World} (hn : n₀ ≤ w.heap.size) (W : World) (l : Nat) (o o' : Obj) (hl : w.heap.size ≤ l) (h : W.heap[l]? = some o) (hc : o.isCells = false) (hw : o.isWalk = false) : KpP n₀ W (W.putObj l o') :=
  ⟨belowK_b hn W l o o' hl h hc hw, fun k cs hb => blk_putObj h hc hb, fun k cs hb => blk_putObj h hc hb⟩

theorem slab_places_stops (Bn n₀ c pb : Nat) (v : Value) (bp bq : Nat → Nat) (s : SS) (w : World) (hn : n₀ ≤ w.heap.size)
    (hBn : Bn < w.heap.size) (hc : Blk w Bn [.pointer (some ⟨c, 0, none⟩)] TpC) (hL : PlAt n₀ w c pb v bp bq s) :
    SeqStopsK Fence.wide 9 Tryz.prog 100 #[.pointer (some ⟨Bn, 0, none⟩)] (fun x : Int => #[Value.int .i64 x]) (KpP n₀) (fun ys => ys = s.places) (fun pre => pre <+: s.places) s.places.length w := fun l J Jx W hW hJ hJx hY h0 =>
  slab_places1 9 (by omega) l Bn n₀ c pb v bp bq s J Jx hY W ((hW.block Bn hBn).trans hc) (hL.below (hW.mono hn)) h0
    (fun pre A B hA hK => hJ pre A B none hA ⟨hK.os, hK.tape, hK.output, hK.size, fun k hk _ => hK.block k hk (fun e => e)⟩ (fun r e => by cases e))

theorem infoInt : (Tryz.prog.info? 3).map (fun i => (i.zero, i.size, i.bytes)) = some (some (.int .i64 0), 1, 8) := by kernel_rfl

set_option maxRecDepth 100000 in
set_option maxHeartbeats 2000000 in
theorem slab_Used_in (c pb : Nat) (v0 : Value) (bp bq : Nat → Nat) (s : SS) (w : World) (h : CT w c pb v0 bp bq s) (hg : Glob w) :
    CallsIn Fence.wide 10 Tryz.prog 43 #[.pointer (some ⟨c, 0, none⟩)] w fun e W' =>
      ∃ v, e = .returned v ∧ W'.ownsRow w.heap.size 3 1 v s.places.length (s.places.map (Value.int .i64)) ∧ Below w.heap.size w W' := by
  obtain ⟨i0, hi, hz0, hz1, hz2⟩ := info_parts infoInt
  have hPL := h.ok.places_len
  have HC := Lib.hid h
  have HG := Lib.hid hg
  clear h hg
  refine callsIn_of_wp_marks Tryz.func43 rfl trivial ?_ rfl
  simp only [Tryz.ntmps43, List.size_toArray, List.length_cons, List.length_nil, Nat.reduceAdd, Nat.reduceSub, Array.replicate_succ, Array.replicate_zero, List.push_toArray, List.append_toArray, List.nil_append, List.cons_append]
  gi_wp2_with (refine ⟨trivial, ?_⟩; gi_at_call 75; refine (slab_places c _).mono ?_; rintro e w' ⟨rfl, rfl⟩)
  have bO := Boxed.new w 37 (.slice none 0 0)
  have bN := Boxed.new (w.alloc (.cells #[.slice none 0 0] 37)) 76 (.pointer (some ⟨c, 0, none⟩))
  rw [World.size_alloc] at bN
  have hB0 : Below w.heap.size w ((w.alloc (.cells #[.slice none 0 0] 37)).alloc (.cells #[.pointer (some ⟨c, 0, none⟩)] 76)) := ((Below.refl _ w).alloc (Nat.le_refl _) _).alloc (by simp) _
  have hK0 : Kept NoB w ((w.alloc (.cells #[.slice none 0 0] 37)).alloc (.cells #[.pointer (some ⟨c, 0, none⟩)] 76)) := ((Kept.refl NoB w).alloc _).alloc _
  have HPA : Hid (PlAt w.heap.size ((w.alloc (.cells #[.slice none 0 0] 37)).alloc (.cells #[.pointer (some ⟨c, 0, none⟩)] 76)) c pb v0 bp bq s) :=
    ⟨HC.out.keptNo hK0, fun b hb => HC.out.flt hb, HG.out.keptNo hK0, HG.out.lt, by simp; omega⟩
  refine wpIn_rangeFunc_ownG (F := Fence.wide) (n := 10) rfl (by omega) (gf := 100) (lb := #[.pointer (some ⟨w.heap.size + 1, 0, none⟩)]) rfl trivial (enters_of Tryz.func100 (by kernel_rfl) rfl)
    (slab_places_stops (w.heap.size + 1) w.heap.size c pb v0 bp bq s _ (by simp; omega) (by simp) (by simpa using Blk.new (w.alloc (.cells #[.slice none 0 0] 37)) [.pointer (some ⟨c, 0, none⟩)] TpC) HPA.out) (fun h k => KpP.t h k) (fun W l o o' hl h hc hw => KpP.b (by simp; omega) W l o o' hl h hc hw) (Below.refl _ _) (fun _ => rfl)
    (fun (pre : List Int) W => (∃ v, Boxed W w.heap.size 37 v ∧ W.ownsRow w.heap.size 3 1 v pre.length (pre.map (Value.int .i64)) ∧ True) ∧ Below w.heap.size w W)
    (fun _ _ _ => False)
    (OwnFrom.and (Own.from (holdsRow_own w.heap.size w.heap.size 37 3 1 (fun (pre : List Int) => pre.length) (fun (pre : List Int) => pre.map (Value.int .i64)) (fun _ _ => True)) _) (ownFrom_below (Nat.le_refl _) (by simp; omega)))
    (fun _ _ _ _ _ hs _ _ => hs)
    ⟨⟨_, bO.alloc _, World.ownsRow_nil _ _ _ _, trivial⟩, hB0⟩
    (fun x => { tmps := #[.pointer (some ⟨c, 0, none⟩), undef, .slice none 0 0, .pointer (some ⟨w.heap.size, 0, none⟩), .int .i64 x, .pointer (some ⟨c, 0, none⟩), .func (.func 100) #[] #[.pointer (some ⟨w.heap.size + 1, 0, none⟩)], .int .i64 x, undef, undef, undef, undef, undef], defers := [] }) ?assign ?body ?done ?stop
  case assign =>
    intro l x W K hK
    gi_wp2
    exact hK
  case body =>
    rintro l pre x W ⟨⟨v, hv, hrow, _⟩, hB⟩ hlt
    have hc := hv.cell
    have hsz := hB.size
    gi_wp2_with (gi_at_builtin; go_loud (refine wpListIn_append_own _ rfl _ _ 37 rfl w.heap.size 3 i0 (.int .i64 0) 1 8 Tryz.underlying37 hi hz0 hz1 hz2 rfl (by decide) _ _ _ rfl (hrow.alloc _) ⟨W.heap.size, 0, none⟩ 1 1 [.int .i64 x] rfl rfl (cell_one_new _ _ _) (by simp [Value.oneCell']) (by unfold maxLen; omega) (by omega) (by simp; omega) ?_; intro v' w1 hown' hgrow _; obtain ⟨g', cap', rfl⟩ := ownsRow_succ hown'; obtain ⟨hv1, hv2, hr2, hk2, hb2⟩ := hv.appended (by decide) hrow hB.size (Nat.le_refl _) hown' hgrow; have hc1 := hv1.cell; have hf1 := hv1.frozen))
    have hkp : ∀ (k : Nat) (cs : List Value) (T : TypeId), T ≠ 3 → T ≠ 37 → Blk W k cs T → Blk (w1.setCell ⟨w.heap.size, 0, none⟩ (.slice (some ⟨g', 0, none⟩) (pre.length + 1) cap')) k cs T := fun k cs T h1 h2 hb => by
      have hb1 : Blk w1 k cs T := by
        refine (hgrow.block k (by simp; have := hb.lt; omega) (fun e => ?_)).trans (hb.alloc _)
        obtain ⟨ds, hd⟩ := ownsRow_blk hrow (b := k) e.symm
        exact hb.ne hd h1 rfl
      refine hb1.setCell_ne _ _ (fun e => ?_)
      have hx : Blk w1 w.heap.size [v] 37 := hv1
      exact hx.ne hb1 (fun e2 => h2 e2.symm) e
    exact ⟨hk2.from _, ⟨hb2, fun k cs hb => hkp k cs _ (by decide) (by decide) hb, fun k cs hb => hkp k cs _ (by decide) (by decide) hb⟩, ⟨_, hv2, by simpa using hr2, trivial⟩, hB.trans hb2⟩
  case done =>
    rintro D ys W hD rfl ⟨⟨v, hv, hrow, hnil⟩, hB⟩ hK
    have hc := hv.cell
    gi_wp2
    refine ⟨by simp, .inl ⟨_, _, rfl, run_takeDeferred hK, ?_⟩⟩
    exact ⟨_, results_tmp rfl _ _ _, v, rfl, ownsRow_putObj hrow _ hK rfl, hB.trans (belowK_b (w := w) (Nat.le_refl _) W D _ _ (by simp at hD; omega) hK rfl rfl)⟩
  case stop =>
    rintro D c pre W _ _ h _
    exact h.elim

/-- Where the used places begin. -/
theorem slab_Used (c pb : Nat) (v0 : Value) (bp bq : Nat → Nat) (s : SS) (w : World) (h : CT w c pb v0 bp bq s) (hg : Glob w) :
    Calls Tryz.prog 43 #[.pointer (some ⟨c, 0, none⟩)] w fun e W' =>
      ∃ v, e = .returned v ∧ W'.ownsRow w.heap.size 3 1 v s.places.length (s.places.map (Value.int .i64)) ∧ Kept NoB w W' :=
  (callsIn_wide.1 (slab_Used_in c pb v0 bp bq s w h hg)).mono fun e W' ⟨v, h1, h2, h3⟩ => ⟨v, h1, h2, Kept.ofBelow h3⟩
end Go.Proofs.YtbkliamhignmfaaGreatDoor
