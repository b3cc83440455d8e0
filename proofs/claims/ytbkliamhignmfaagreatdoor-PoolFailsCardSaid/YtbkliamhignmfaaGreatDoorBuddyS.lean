/- Layer 3: blocks, sorted by their addresses. -/
import Derived.Test.YtbkliamhignmfaaGreatDoorProg
import Derived.Test.YtbkliamhignmfaaGreatDoorSortBlk
import Derived.Test.YtbkliamhignmfaaGreatDoorRow
import Derived.Test.YtbkliamhignmfaaGreatDoorSlabF
namespace Go.Proofs.YtbkliamhignmfaaGreatDoor
open Go.RowKit

abbrev TBk : TypeId := 108
def encB (x : Nat × Nat) : List Value := [.int .i64 (x.1 : Nat), .int .i64 (x.2 : Nat)]
def bks (l : List (Nat × Nat)) : List Value := l.flatMap encB
theorem bks_length : ∀ l : List (Nat × Nat), (bks l).length = l.length * 2
  | [] => rfl
  | x :: t => by
    have := bks_length t
    simp only [bks, List.flatMap_cons, List.length_append, List.length_cons] at this ⊢
    rw [this]; simp [encB]; omega
theorem bks_append (a b : List (Nat × Nat)) : bks (a ++ b) = bks a ++ bks b := by simp [bks]
theorem bks_one (l : List (Nat × Nat)) : ∀ u ∈ bks l, u.oneCell' = true := by
  intro u hu
  obtain ⟨p, _, h⟩ := List.mem_flatMap.1 hu
  simp [encB] at h
  rcases h with rfl | rfl <;> rfl
theorem bks_get : ∀ (l : List (Nat × Nat)) (i : Nat) (h : i < l.length), (bks l)[i * 2]? = some (.int .i64 (l[i].1 : Nat)) ∧ (bks l)[i * 2 + 1]? = some (.int .i64 (l[i].2 : Nat))
  | p :: t, 0, _ => ⟨rfl, rfl⟩
  | p :: t, i + 1, h => by
    have := bks_get t i (by simpa using h)
    have e : bks (p :: t) = encB p ++ bks t := rfl
    rw [e, show (i + 1) * 2 = 2 + i * 2 by omega, show 2 + i * 2 + 1 = 2 + (i * 2 + 1) by omega]
    constructor
    · rw [List.getElem?_append_right (by simp [encB])]
      simpa [encB] using this.1
    · rw [List.getElem?_append_right (by simp [encB])]
      have e2 : 2 + (i * 2 + 1) - (encB p).length = i * 2 + 1 := by simp [encB]
      rw [e2]; simpa using this.2

def cfB (x y : Nat × Nat) : Int := cmpI x.1 y.1
theorem ltB (x y : Nat × Nat) : Go.Proofs.ltOf cfB x y = decide (x.1 < y.1) := by
  unfold Go.Proofs.ltOf cfB
  rw [cmpI_lt]; simp
theorem swoB : Go.Sort.SWO (Go.Proofs.ltOf cfB) where
  irrefl x := by rw [ltB]; simp
  trans x y z h1 h2 := by rw [ltB] at *; simp at *; omega
  ntrans x y z h1 h2 := by rw [ltB] at *; simp at *; omega

theorem blk_cmp (x y : Nat × Nat) (W : World) : Calls Tryz.prog 87 #[.agg #[.int .i64 (x.1 : Nat), .int .i64 (x.2 : Nat)], .agg #[.int .i64 (y.1 : Nat), .int .i64 (y.2 : Nat)]] W fun e w' =>
    e = .returned (.int .i64 (cfB x y)) ∧ ∃ q os', w' = Go.Sort.grow (W.drewN q) os' := by
  have HC := Lib.hid (fun w => cmp_Compare (x.1 : Nat) (y.1 : Nat) w)
  unfold cfB
  obtain ⟨r, hr⟩ : ∃ r, r = cmpI (x.1 : Nat) (y.1 : Nat) := ⟨_, rfl⟩
  rw [← hr] at HC ⊢
  clear hr
  go_enter Tryz.func87, Tryz.ntmps87
  go_wp2_with (go_at_call 88; go_loud (refine (HC.out _).mono ?_; rintro e w' ⟨rfl, rfl⟩))
  go_ret
  exact ⟨rfl, 0, _, by rw [Go.Sort.alloc_eq_grow, Go.Sort.alloc_eq_grow, Go.Sort.grow_grow]; rfl⟩

open Go.Sort in
theorem flat_bks (l : List (Nat × Nat)) : (flatK encB 2 l.toArray).toList = bks l := by
  apply List.ext_getElem?
  intro t
  by_cases ht : t < l.length * 2
  · have h1 := get_flatK encB 2 l.toArray t (by simpa using ht)
    have h2 : t < (flatK encB 2 l.toArray).size := by simpa using ht
    rw [getElem!_pos _ t h2] at h1
    rw [Array.getElem?_toList, Array.getElem?_eq_getElem h2, h1]
    have hd : t / 2 < l.length := by omega
    obtain ⟨b0, b1⟩ := bks_get l (t / 2) hd
    have e : (l.toArray)[t / 2]! = l[t / 2] := by rw [getElem!_pos l.toArray (t / 2) (by simpa using hd)]; simp
    rw [e]
    rcases Nat.mod_two_eq_zero_or_one t with hm | hm
    · rw [hm]
      rw [show t / 2 * 2 = t by omega] at b0
      rw [b0]; rfl
    · rw [hm]
      rw [show t / 2 * 2 + 1 = t by omega] at b1
      rw [b1]; rfl
  · rw [List.getElem?_eq_none (by rw [Array.length_toList, size_flatK]; simp; omega), List.getElem?_eq_none (by rw [bks_length]; omega)]

open Go.Sort in
theorem sortWorld_row {w : World} {g c : Nat} {E : TypeId} {l : List (Nat × Nat)} {all : List Value} (h : RowAt w g c 2 E (bks l) all) (d' : Array (Nat × Nat)) (hd : d'.size = l.length) (n : Nat) (os : Array Obj) :
    (∃ all', RowAt (sortWorldK encB 2 w g 0 n d' os) g c 2 E (bks d'.toList) all') ∧ Kept (fun x => x = g) w (sortWorldK encB 2 w g 0 n d' os) := by
  have hlt := h.blk.lt
  have hg0 : w.heap[g]? = some (.cells all.toArray E (0, 0)) := h.blk
  have hlt2 : g < (putRowK encB 2 (Go.Sort.ahead w n) g 0 d').heap.size := by
    show g < (Array.modify _ _ _).size
    simpa using hlt
  have hb : (sortWorldK encB 2 w g 0 n d' os).heap[g]? = some (.cells (putCells id 0 (flatK encB 2 d') all.toArray) E (0, 0)) := by
    show (Go.Sort.grow _ os).heap[g]? = _
    rw [heap_grow_old _ _ hlt2]
    show (Array.modify _ _ _)[g]? = _
    rw [Array.getElem?_modify, if_pos rfl]
    show (w.heap[g]?).map _ = _
    rw [hg0]; rfl
  have hsz : (flatK encB 2 d').size = d'.size * 2 := size_flatK _ _ _
  have hfl : (flatK encB 2 d').toList = bks d'.toList := by
    have := flat_bks d'.toList
    simpa using this
  have hlen : (bks d'.toList).length = (bks l).length := by rw [bks_length, bks_length]; simp [hd]
  refine ⟨⟨(putCells id 0 (flatK encB 2 d') all.toArray).toList, by simpa [Blk] using hb, ?_, ?_, ?_⟩, ?_⟩
  · have : (putCells id 0 (flatK encB 2 d') all.toArray).size = all.length := by simp [putCells]
    rw [Array.length_toList, this]; exact h.size
  · have : (putCells id 0 (flatK encB 2 d') all.toArray).size = all.length := by simp [putCells]
    show (bks d'.toList).length ≤ (putCells id 0 (flatK encB 2 d') all.toArray).toList.length
    rw [Array.length_toList (xs := putCells id 0 (flatK encB 2 d') all.toArray), this, hlen]; exact h.le
  · apply List.ext_getElem?
    intro t
    by_cases ht : t < (bks d'.toList).length
    · have hle := h.le
      have ht2 : t < all.length := by omega
      rw [List.getElem?_take, if_pos ht, ← hfl, Array.getElem?_toList, Array.getElem?_toList]
      have ht3 : t < (flatK encB 2 d').size := by rw [← hfl, Array.length_toList] at ht; exact ht
      simp only [putCells, Array.getElem?_mapIdx]
      rw [Array.getElem?_eq_getElem (by simpa using ht2)]
      simp only [Option.map_some, Nat.zero_le, true_and, Nat.zero_add, Nat.sub_zero, if_pos ht3, id]
      rw [getElem!_pos _ t ht3, Array.getElem?_eq_getElem ht3]
    · rw [List.getElem?_take, if_neg ht, List.getElem?_eq_none (by omega)]
  · refine ⟨rfl, rfl, rfl, ?_, fun k hk hn => ?_⟩
    · show _ ≤ (Go.Sort.grow _ os).heap.size
      rw [size_grow]
      show _ ≤ (Array.modify _ _ _).size + _
      simp [Go.Sort.ahead]
    · show (Go.Sort.grow _ os).heap[k]? = _
      rw [heap_grow_old _ _ (by show k < (Array.modify _ _ _).size; simpa [Go.Sort.ahead] using hk)]
      show (Array.modify _ _ _)[k]? = _
      rw [Array.getElem?_modify, if_neg (fun e => hn e.symm)]
      rfl

set_option maxRecDepth 100000 in
open Go.Sort in
/-- Blocks by rising addresses. -/
theorem buddy_sorted (v : Value) (l : List (Nat × Nat)) (w : World) (h : w.ownsRow 0 TBk 2 v l.length (bks l)) (hn : l.length ≤ 1099511627776) :
    Calls Tryz.prog 58 #[v] w fun e w' => e = .returned v ∧ ∃ l', l'.Perm l ∧ l'.Pairwise (fun x y => x.1 ≤ y.1) ∧ w'.ownsRow 0 TBk 2 v l'.length (bks l') ∧ Kept (fun x => some x = v.ownBlock) w w' := by
  by_cases h0 : l.length = 0
  · obtain ⟨p, c, hv⟩ : ∃ p c, v = .slice p 0 c := by
      rcases h.2 with ⟨hv, _⟩ | ⟨g, cap, cur, hv, _⟩
      · exact ⟨_, _, hv⟩
      · rw [h0] at hv; exact ⟨_, _, hv⟩
    subst hv
    have hs := fun W => AnyF.slices_SortFunc_none sortBlk p c (.func (.func 87) #[] #[]) W
    change ∀ W, Calls Tryz.prog 86 _ _ _ at hs
    have HS := Lib.hid hs
    have HH := Lib.hid h
    have hl0 := List.length_eq_zero_iff.1 h0
    have HL := Lib.hid hl0
    clear hs h h0 hl0
    go_enter Tryz.func58, Tryz.ntmps58
    go_wp2_with (go_at_call 86; go_loud (refine (HS.out _).mono ?_; rintro e w' ⟨rfl, rfl⟩))
    go_ret
    have h := HH.out
    rw [HL.out] at h ⊢
    exact ⟨rfl, [], List.Perm.refl _, List.Pairwise.nil, h, Kept.refl _ _⟩
  · obtain ⟨g, c, all, hv, hrow, hnc, hcm⟩ := ownsRow_form h (Nat.pos_of_ne_zero h0)
    subst hv
    have eg : ∀ args w, (callFunc 87 args).run Tryz.prog w = .ok (.enter 87 args) w := enters_of Tryz.func87 (by kernel_rfl) rfl
    have hH : HoldsK encB 2 w g 0 l.toArray := by
      intro j hj
      have hj' : j < (bks l).length := by rw [← flat_bks, Array.length_toList]; exact hj
      rw [Nat.zero_add]
      refine ⟨?_, hrow.blk.frozen j⟩
      refine hrow.cell j _ ?_
      rw [← flat_bks, Array.getElem?_toList, Array.getElem?_eq_getElem hj, getElem!_pos _ j hj]; rfl
    have hs := AnyQ.slices_SortFunc sortBlk 2 Tryz.isAgg108 Tryz.sizeOf108 encB (fun _ => rfl) (fun x v hv => by simp [encB] at hv; rcases hv with rfl | rfl <;> rfl) cfB swoB 87 #[] g 0 c l.toArray w eg (fun _ _ _ _ x y => blk_cmp x y _) hH hrow.blk.lt (by simp; omega)
    change Calls Tryz.prog 86 _ _ _ at hs
    rw [show l.toArray.size = l.length by simp] at hs
    have HS := Lib.hid hs
    have HR := Lib.hid (And.intro hrow (And.intro hnc (And.intro hcm h.1)))
    clear hs h hrow hH eg hnc hcm
    go_enter Tryz.func58, Tryz.ntmps58
    go_wp2_with (go_at_call 86; go_loud (refine HS.out.mono ?_; rintro e w' ⟨rfl, d', n, os, hp, hsr, rfl⟩; have HP := Lib.hid (And.intro hp hsr); clear hp hsr))
    go_ret
    obtain ⟨⟨p1, p2, p3⟩, p4⟩ := HP.out
    obtain ⟨r1, r2, r3, r4⟩ := HR.out
    have hd : d'.size = l.length := by simpa using p1
    obtain ⟨⟨all', ha⟩, hk⟩ := sortWorld_row r1 d' hd n os
    have hperm : d'.toList.Perm l := by
      have e1 : (d'.extract 0 l.length).toList = d'.toList := by rw [← hd]; simp
      have e2 : (l.toArray.extract 0 l.length).toList = l := by simp
      rw [e1, e2] at p3; exact p3
    refine ⟨rfl, d'.toList, hperm, ?_, ?_, hk.mono (fun x e => by rw [e]; rfl)⟩
    · rw [List.pairwise_iff_getElem]
      intro i j hi hj hij
      have hj' : j < d'.size := by simpa using hj
      have hi' : i < d'.size := by simpa using hi
      have := p4 i j (Nat.zero_le _) hij (by omega)
      rw [ltB, getElem!_pos _ j hj', getElem!_pos _ i hi'] at this
      simp at this ⊢
      omega
    · have e3 : d'.toList.length = l.length := by simpa using hd
      rw [e3]
      exact ha.owns l.length (by rw [bks_length, e3]) r2 r3
end Go.Proofs.YtbkliamhignmfaaGreatDoor
