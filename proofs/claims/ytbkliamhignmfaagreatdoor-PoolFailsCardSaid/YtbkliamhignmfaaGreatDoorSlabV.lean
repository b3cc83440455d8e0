/- Layer 4: places, Used: a range over a function. -/
import Derived.RangeFuncBox
import Derived.RangeFuncNested
import Derived.RangeFuncBound
import Derived.RangeFuncCalls
import Derived.RangeFuncLeaves
import Derived.Shelf.Abstract
import Derived.Shelf.RegionOpen
import Derived.WalkKit
import Derived.OwnWalkIn
import Derived.TacticsInMore
import Derived.LoopNIn
import Derived.LoopIn
import Derived.Maps.AppendAt
import Derived.Test.YtbkliamhignmfaaGreatDoorProg
import Derived.Test.YtbkliamhignmfaaGreatDoorSlabP
namespace Go.Proofs.YtbkliamhignmfaaGreatDoor
open Go.RowKit Go.Shelf
attribute [local go_sem] Oper.semAt_some

theorem Kept.ofBelow {w w' : World} (h : Below w.heap.size w w') : Kept NoB w w' := ⟨h.os, h.tape, h.output, h.size, fun k hk _ => h.block k hk⟩

/-- What the iterator reads, of memory below n₀. -/
structure PlAt (n₀ : Nat) (W : World) (c pb : Nat) (v : Value) (bp bq : Nat → Nat) (s : SS) : Prop where
  ct : CT W c pb v bp bq s
  lt : ∀ b, CF c v bp bq s b → b < n₀
  gl : Glob W
  glt : 1 < n₀ ∧ 0 < n₀
  le : n₀ ≤ W.heap.size
theorem PlAt.below {n₀ : Nat} {W W' : World} {c pb : Nat} {v : Value} {bp bq : Nat → Nat} {s : SS} (h : PlAt n₀ W c pb v bp bq s) (k : Below n₀ W W') : PlAt n₀ W' c pb v bp bq s := by
  have K : Kept (fun x => n₀ ≤ x) W W' := ⟨k.os, k.tape, k.output, k.size, fun i hi hn => k.block i (by omega)⟩
  refine ⟨h.ct.kept K (fun b hb => by have := h.lt b hb; show ¬ n₀ ≤ b; omega), h.lt, ?_, h.glt, Nat.le_trans h.le k.size⟩
  exact h.gl.kept K (fun b hb => by have := h.glt; unfold NotGlob; constructor <;> (intro e; subst e; omega))

abbrev TpC : TypeId := 76
/-- What a round keeps: all below n₀, and each block of pages, or of an address of a cache. -/
structure KpP (n₀ : Nat) (A B : World) : Prop where
  bel : Below n₀ A B
  pgs : ∀ k cs, Blk A k cs TPg → Blk B k cs TPg
  bxs : ∀ k cs, Blk A k cs TpC → Blk B k cs TpC
theorem KpP.trans {n₀ : Nat} {A B C : World} (h : KpP n₀ A B) (k : KpP n₀ B C) : KpP n₀ A C := ⟨h.bel.trans k.bel, fun i cs hb => k.pgs i cs (h.pgs i cs hb), fun i cs hb => k.bxs i cs (h.bxs i cs hb)⟩
theorem KpP.ofKept {n₀ : Nat} {A B : World} (h : Kept NoB A B) (hn : n₀ ≤ A.heap.size) : KpP n₀ A B :=
  ⟨h.below n₀ hn (fun _ _ e => e), fun k cs hb => hb.kept h (fun e => e), fun k cs hb => hb.kept h (fun e => e)⟩
theorem KpP.refl (n₀ : Nat) (A : World) : KpP n₀ A A := ⟨Below.refl _ _, fun _ _ h => h, fun _ _ h => h⟩

def plK (s : SS) (k : Nat) : List Int := (s.l.take k).flatMap fun p => pagePl s.size p 0
theorem plK_succ (s : SS) (k : Nat) (hk : k < s.l.length) : plK s (k + 1) = plK s k ++ pagePl s.size s.l[k] 0 := by
  unfold plK
  rw [List.take_succ_eq_append_getElem hk, List.flatMap_append]
  simp
theorem plK_all (s : SS) : plK s s.l.length = s.places := by unfold plK SS.places; rw [List.take_length]
theorem plK_pre (s : SS) (k : Nat) : plK s k <+: s.places := by
  unfold plK SS.places
  conv => rhs; rw [← List.take_append_drop k s.l, List.flatMap_append]
  exact List.prefix_append _ _

set_option maxRecDepth 100000 in
set_option maxHeartbeats 2000000 in
theorem slab_places1 (n : Nat) (hn : 1 ≤ n) (l Bn n₀ c pb : Nat) (v : Value) (bp bq : Nat → Nat) (s : SS) (J Jx : List Int → World → Prop)
    (hY : ∀ pre x W, J pre W → pre.length < s.places.length → YieldAt Fence.wide (n - 1) Tryz.prog l #[.int .i64 x] W fun e W' =>
      (e = .returned (.bool true) ∧ J (pre ++ [x]) W' ∧ KpP n₀ W W') ∨ (e = .returned (.bool false) ∧ Jx (pre ++ [x]) W'))
    (W : World) (hBb : Blk W Bn [.pointer (some ⟨c, 0, none⟩)] TpC) (hL : PlAt n₀ W c pb v bp bq s) (h0 : J [] W) (hJ : ∀ pre A B, J pre A → Kept NoB A B → J pre B) :
    CallsIn Fence.wide n Tryz.prog 100 #[.func (.yield l) #[] #[], .pointer (some ⟨Bn, 0, none⟩)] W fun e W' => (∃ v, e = .returned v) ∧
      ((∃ ys, ys = s.places ∧ J ys W') ∨ (∃ pre, pre <+: s.places ∧ Jx pre W')) := by
  refine callsIn_of_wp Tryz.func100 rfl trivial ?_ rfl
  simp only [Tryz.ntmps100, List.size_toArray, List.length_cons, List.length_nil, Nat.reduceAdd, Nat.reduceSub, Array.replicate_succ, Array.replicate_zero, List.push_toArray, List.append_toArray, List.nil_append, List.cons_append]
  obtain ⟨ad, cap, hv, hp⟩ := hL.ct.form
  have h2 := hL.ct.hc.cell 2
  have hBn : W.cell? ⟨Bn, 0, none⟩ = some (.pointer (some ⟨c, 0, none⟩)) := hBb.cell 0
  have HBB := Lib.hid hBb
  clear hBb
  rw [hv] at h2
  have hlen := hL.ct.ok.len
  have HL := Lib.hid hL
  obtain ⟨L, hLL⟩ : ∃ L, L = s.l.length := ⟨_, rfl⟩
  rw [← hLL] at h2 hlen
  have HLL := Lib.hid hLL
  have HV : Hid (v = .slice ad s.l.length cap) := hv
  clear hL hv hp hLL
  gi_wp2
  gi_loopw [4, 5, 13] (fun _ _ x wr => ∃ k : Nat, k ≤ L ∧ x = .int .i64 k ∧ J (plK s k) wr ∧ KpP n₀ W wr) (fun _ _ x _ => L - (intOf x).toNat)
  case atStart => exact ⟨0, Nat.zero_le _, rfl, h0, KpP.refl _ _⟩
  case round =>
    obtain ⟨k, hk, rfl, hJs, hnx⟩ := hrel
    by_cases hlt : k < L
    · have hkl : k < s.l.length := by rw [← HLL.out]; exact hlt
      have hpl := HL.out.below hnx.bel
      obtain ⟨ad2, cap2, hv2, hp2⟩ := hpl.ct.form
      obtain ⟨rfl, rfl⟩ : ad = ad2 ∧ cap = cap2 := by have := HV.out; rw [this] at hv2; injection hv2 with a b c; exact ⟨a, c⟩
      obtain ⟨g, e1, hgl, c1, c2⟩ := hp2 k hkl
      subst e1
      have hbm := hpl.ct.pg _ (List.getElem_mem hkl)
      have hpgl : bp s.l[k].at_ < n₀ ∧ bq s.l[k].at_ < n₀ := ⟨hpl.lt _ (.inr (.inr ⟨_, List.getElem_mem hkl, .inl rfl⟩)), hpl.lt _ (.inr (.inr ⟨_, List.getElem_mem hkl, .inr rfl⟩))⟩
      obtain ⟨P0, hP0⟩ : ∃ P0, P0 = bp s.l[k].at_ := ⟨_, rfl⟩
      obtain ⟨Q0, hQ0⟩ : ∃ Q0, Q0 = bq s.l[k].at_ := ⟨_, rfl⟩
      obtain ⟨B0, hB0⟩ : ∃ B0, B0 = s.l[k].bits := ⟨_, rfl⟩
      obtain ⟨A0, hA0⟩ : ∃ A0, A0 = s.l[k].at_ := ⟨_, rfl⟩
      rw [← hP0] at c1
      rw [← hA0] at c2
      rw [← hP0, ← hQ0, ← hB0] at hbm
      have HPL := Lib.hid hpl
      have HBM := Lib.hid hbm
      have HEQ := Lib.hid (And.intro hP0 (And.intro hQ0 (And.intro hB0 hA0)))
      have HPG := Lib.hid hpgl
      have HJS := Lib.hid hJs
      clear hpl hbm hP0 hQ0 hB0 hA0 hpgl hv2 hp2 hJs
      gi_wp2_with (refine ⟨trivial, ?_⟩; gi_at_call 57; go_loud (refine (callsIn_wide.2 (bitmap_First P0 Q0 B0 true 0 _ (HBM.out.alloc _) (HPL.out.gl.kept (Kept.alloc (Kept.refl NoB _) _) (fun _ e => e.elim)) (by omega))).mono ?_; rintro e w' ⟨rfl, rfl⟩))
      obtain ⟨W1, hW1⟩ : ∃ W1, W1 = wr.alloc (.cells #[.pointer (some ⟨P0, 0, none⟩), .int .i64 (A0 : Nat)] TPg) := ⟨_, rfl⟩
      obtain ⟨Bp, hBp⟩ : ∃ Bp, Bp = wr.heap.size := ⟨_, rfl⟩
      have k1 : Kept NoB wr W1 := by rw [hW1]; exact Kept.alloc (Kept.refl _ _) _
      have HJ1 : Hid (J (plK s k) W1) := hJ _ _ _ HJS.out k1
      have HB1 : Hid (KpP n₀ W W1) := hnx.trans (KpP.ofKept k1 HPL.out.le)
      have HX1 : Hid (Blk W1 Bp [.pointer (some ⟨P0, 0, none⟩), .int .i64 (A0 : Nat)] TPg) := by rw [hW1, hBp]; exact Blk.new wr [.pointer (some ⟨P0, 0, none⟩), .int .i64 (A0 : Nat)] TPg
      rw [← hW1, ← hBp]
      clear hW1 hBp k1
      gi_loopw [5] (fun x w2 => ∃ (f : Nat) (front : List Int), x = .int .i64 (firstFrom B0 true f) ∧ f ≤ B0.length ∧ Hid (front ++ pagePl s.size s.l[k] f = pagePl s.size s.l[k] 0) ∧ J (plK s k ++ front) w2 ∧ KpP n₀ W w2 ∧ Hid (Blk w2 Bp [.pointer (some ⟨P0, 0, none⟩), .int .i64 (A0 : Nat)] TPg)) (fun x _ => if intOf x < 0 then 0 else B0.length - (intOf x).toNat)
      case atStart => exact ⟨0, [], rfl, Nat.zero_le _, rfl, by rw [List.append_nil]; exact HJ1.out, HB1.out, HX1⟩
      case round =>
        obtain ⟨f, front, rfl, hf, HFR, hJ2, hB2, HX2⟩ := hrel
        obtain ⟨e1, e2, e3, e4⟩ := HEQ.out
        rcases firstFrom_cases B0 true f with ⟨hff, hno⟩ | ⟨i, hff, hi, hfi, hbi, hmin⟩
        · have hend : pagePl s.size s.l[k] f = [] := by unfold pagePl; rw [← e3, usedFrom_none hno]; rfl
          have HEND : Hid (J (plK s (k + 1)) wr) := by
            have := HFR.out
            rw [hend, List.append_nil] at this
            rw [plK_succ s k hkl, ← this]; exact hJ2
          rw [hff]
          clear hno hend hff e1 e2 e3 e4
          gi_wp2
          go_roundw
          case rel => exact ⟨k + 1, by omega, by go_num, HEND.out, hB2⟩
          case measure => simp [intOf]; omega
        · have hpc : pagePl s.size s.l[k] f = ((A0 + 64 + i * s.size : Nat) : Int) :: pagePl s.size s.l[k] (i + 1) := by
            unfold pagePl
            rw [← e3, usedFrom_cons hi hfi hbi hmin, List.map_cons, ← e4]
          obtain ⟨X, hX⟩ : ∃ X : Nat, X = A0 + 64 + i * s.size := ⟨_, rfl⟩
          rw [← hX] at hpc
          have HFR2 : Hid ((front ++ [(X : Int)]) ++ pagePl s.size s.l[k] (i + 1) = pagePl s.size s.l[k] 0) := by
            have := HFR.out
            rw [hpc] at this
            rw [List.append_assoc]; exact this
          have hplw := HL.out.below hB2.bel
          have hm : i < 960 / s.size := by have := hplw.ct.ok.many _ (List.getElem_mem hkl); rw [← e3] at this; omega
          have hA : A0 < 1073741824 := by rw [e4]; exact (hplw.ct.ok.al _ (List.getElem_mem hkl)).2
          have hlenP : (plK s k ++ front).length < s.places.length := by
            have h1 : (plK s (k + 1)).length ≤ s.places.length := (plK_pre s (k + 1)).length_le
            have h2 := HFR2.out
            rw [plK_succ s k hkl, ← h2] at h1
            simp at h1 ⊢; omega
          have HPL2 := Lib.hid (slab_place c _ _ s (.pointer (some ⟨P0, 0, none⟩)) A0 i wr hplw.ct.hc hplw.ct.ok hA hm)
          have x0 := HX2.out.cell 0
          have x1 := HX2.out.cell 1
          have b0 : wr.cell? ⟨Bn, 0, none⟩ = some (.pointer (some ⟨c, 0, none⟩)) := (hB2.bxs _ _ HBB.out).cell 0
          have HNL := Lib.hid hplw.le
          rw [hff]
          rw [← hX] at HPL2
          clear hpc hX hplw e1 e2 e3 e4 hff HFR hmin hm hA
          gi_wp2_with (first
            | (refine ⟨trivial, ?_⟩; gi_at_call 66; go_loud (refine (callsIn_wide.2 HPL2.out).mono ?_; rintro e w3 ⟨rfl, hk3⟩; obtain ⟨fn, tmps, assign, body, hy, hR⟩ := hY (plK s k ++ front) (X : Int) w3 (hJ _ _ _ hJ2 hk3) hlenP)))
          refine hR.mono ?_
          rintro e W4 (⟨rfl, hJ4, hk4⟩ | ⟨rfl, hJx4⟩)
          · have hk24 : KpP n₀ wr W4 := (KpP.ofKept hk3 HNL.out).trans hk4
            have HX4 : Hid (Blk W4 Bp [.pointer (some ⟨P0, 0, none⟩), .int .i64 (A0 : Nat)] TPg) := hk24.pgs _ _ HX2.out
            have y0 := HX4.out.cell 0
            have hB4 : KpP n₀ W W4 := hB2.trans hk24
            have hpl4 := HL.out.below hB4.bel
            have hbm4 := hpl4.ct.pg _ (List.getElem_mem hkl)
            obtain ⟨e1, e2, e3, e4⟩ := HEQ.out
            rw [← e1, ← e2, ← e3] at hbm4
            have HBM4 := Lib.hid hbm4
            have HGL4 := Lib.hid hpl4.gl
            clear hbm4 hpl4 e1 e2 e3 e4 x0 x1 b0
            have hile : i < 1048576 := by have := HBM4.out.le; omega
            gi_wp2_with (refine ⟨trivial, ?_⟩; gi_at_call 57; go_loud (refine (callsIn_wide.2 (bitmap_First P0 Q0 B0 true (i + 1) _ HBM4.out HGL4.out (by omega))).mono ?_; rintro e w' ⟨rfl, rfl⟩))
            refine ⟨⟨i + 1, front ++ [(X : Int)], rfl, by omega, HFR2.out, by rw [← List.append_assoc]; exact hJ4, hB4, HX4⟩, ?_⟩
            have hm : ∀ z : Int, z = i → (if z < 0 then 0 else B0.length - z.toNat) = B0.length - i := fun z hz => by subst hz; rw [if_neg (by omega), Int.toNat_natCast]
            show (if firstFrom B0 true (i + 1) < 0 then 0 else B0.length - (firstFrom B0 true (i + 1)).toNat) < (if ((i : Nat) : Int) < 0 then 0 else B0.length - ((i : Nat) : Int).toNat)
            rw [hm _ rfl]
            rcases firstFrom_cases B0 true (i + 1) with ⟨hff, _⟩ | ⟨i', hff, hi', hfi', _, _⟩
            · rw [hff]; simp; omega
            · rw [hff, if_neg (by omega), Int.toNat_natCast]; omega
          · gi_wp2
            refine bodyPost_ret (results_none rfl _ _ _) rfl ⟨⟨_, rfl⟩, .inr ⟨(plK s k ++ front) ++ [(X : Int)], ?_, hJx4⟩⟩
            refine List.IsPrefix.trans ?_ (plK_pre s (k + 1))
            rw [plK_succ s k hkl, ← HFR2.out]
            exact ⟨_, by simp [List.append_assoc]; rfl⟩
    · obtain rfl : k = L := by omega
      gi_wp2
      go_end0
      exact ⟨⟨_, rfl⟩, .inl ⟨_, rfl, by rw [← plK_all, ← HLL.out]; exact hJs⟩⟩
end Go.Proofs.YtbkliamhignmfaaGreatDoor
