/- Layer 4: Take. -/
import Derived.Test.YtbkliamhignmfaaGreatDoorProg
import Derived.Test.YtbkliamhignmfaaGreatDoorSlabS
import Derived.LoopTactic
namespace Go.Proofs.YtbkliamhignmfaaGreatDoor
open Go.RowKit

theorem BM.alloc {w : World} {p q : Nat} {l : List Bool} (h : BM w p q l) (o : Obj) : BM (w.alloc o) p q l := ⟨h.pos, h.le, h.hp.alloc o, h.hq.alloc o⟩
theorem Glob.keptNo {w w' : World} (h : Glob w) (k : Kept NoB w w') : Glob w' := h.kept k (fun _ e => e.elim)

set_option maxRecDepth 100000 in
set_option maxHeartbeats 2000000 in
theorem slab_Take_old (c pb : Nat) (v : Value) (bp bq : Nat → Nat) (s : SS) (w : World) (h : CT w c pb v bp bq s) (hg : Glob w)
    (k : Nat) (hk : k < s.l.length) (hf : ∀ j (hj : j < k), firstFrom (s.l[j]'(by omega)).bits false 0 = -1) (ii : Nat) (hii : firstFrom s.l[k].bits false 0 = (ii : Nat)) (hlt : ii < 960 / s.size) :
    Calls Tryz.prog 39 #[.pointer (some ⟨c, 0, none⟩)] w fun e w' =>
      e = .returned (.tuple #[.int .i64 (s.l[k].at_ + 64 + ii * s.size : Nat), .int .i64 0]) ∧
      BM w' (bp s.l[k].at_) (bq s.l[k].at_) (setI s.l[k].bits true (ii : Nat)) ∧ Kept (fun x => x = bq s.l[k].at_) w w' := by
  obtain ⟨ad, cap, hv, hp⟩ := h.form
  obtain ⟨g, e1, _, _, _⟩ := hp k hk
  subst e1
  have h2 := h.hc.cell 2
  rw [hv] at h2
  have hlen := h.ok.len
  have H : Hid (CT w c pb v bp bq s) := h
  have HP := Lib.hid hp
  have HG := Lib.hid hg
  have HFF := Lib.hid hf
  have HII := Lib.hid hii
  obtain ⟨L, hL⟩ : ∃ L, L = s.l.length := ⟨_, rfl⟩
  rw [← hL] at h2 hlen
  have hkL : k < L := by omega
  have HL := Lib.hid hL
  clear h hp hg hf hii hv hL
  go_enter Tryz.func39, Tryz.ntmps39
  go_wp2
  go_loopw [5, 6, 19] (fun _ _ x wr => ∃ j : Nat, j ≤ k ∧ x = .int .i64 j ∧ Kept NoB w wr) (fun _ _ x _ => k - (intOf x).toNat)
  case atStart => exact ⟨0, Nat.zero_le _, rfl, Kept.refl _ _⟩
  case round =>
    obtain ⟨j, hjk, rfl, hK⟩ := hrel
    have hjl : j < s.l.length := by have := HL.out; omega
    have hjL : j < L := by omega
    obtain ⟨g', e1, e2, c1, c2⟩ := (HP.out.keptNo hK) j hjl
    obtain rfl : g = g' := by injection e1 with e1; injection e1
    have hbm := (H.out.keptNo hK).pg _ (List.getElem_mem hjl)
    have hglr := HG.out.keptNo hK
    obtain ⟨P0, hP0⟩ : ∃ P0, P0 = bp s.l[j].at_ := ⟨_, rfl⟩
    obtain ⟨Q0, hQ0⟩ : ∃ Q0, Q0 = bq s.l[j].at_ := ⟨_, rfl⟩
    obtain ⟨B0, hB0⟩ : ∃ B0, B0 = s.l[j].bits := ⟨_, rfl⟩
    obtain ⟨A0, hA0⟩ : ∃ A0, A0 = s.l[j].at_ := ⟨_, rfl⟩
    rw [← hP0] at c1
    rw [← hA0] at c2
    rw [← hP0, ← hQ0, ← hB0] at hbm
    have HBM := Lib.hid hbm
    have HGL := Lib.hid hglr
    by_cases hjk2 : j < k
    · have hfr : firstFrom B0 false 0 = -1 := by rw [hB0]; exact HFF.out j hjk2
      have HFR := Lib.hid hfr
      clear hfr hbm hglr hP0 hQ0 hB0 hA0 e1 e2
      go_wp2_with (go_at_call 57; refine (bitmap_First P0 Q0 B0 false 0 _ (HBM.out.alloc _) (HGL.out.kept (Kept.alloc (Kept.refl NoB _) _) (fun _ e => e.elim)) (by omega)).mono ?_; rw [HFR.out]; rintro e w' ⟨rfl, rfl⟩)
      go_roundw
      case rel => exact ⟨j + 1, by omega, by go_num, Kept.alloc hK _⟩
      case measure => simp [intOf]; omega
    · obtain rfl : j = k := by omega
      have hfr : firstFrom B0 false 0 = (ii : Nat) := by rw [hB0]; exact HII.out
      have HFR := Lib.hid hfr
      have HEQ := Lib.hid (And.intro hP0 (And.intro hQ0 (And.intro hB0 hA0)))
      have hq0 : Q0 < wr.heap.size := hbm.hq.lt
      have hcq : c ≠ Q0 := (H.out.keptNo hK).hc.ne hbm.hq (by decide)
      have HA : Hid (A0 < 1073741824) := by rw [hA0]; exact (H.out.ok.al _ (List.getElem_mem hjl)).2
      have HOK : Hid s.ok := H.out.ok
      have HSET : Calls Tryz.prog 65 #[.pointer (some ⟨P0, 0, none⟩), .bool true, .slice (some ⟨wr.heap.size + 1, 0, none⟩) 1 1]
          ((wr.alloc (.cells #[.pointer (some ⟨P0, 0, none⟩), .int .i64 (A0 : Nat)] TPg)).alloc (.cells #[.int .i64 (ii : Nat)] 3)) fun e w2 =>
            e = .returned (.int .i64 (one (turns B0 true (ii : Nat)))) ∧ w2.cell? ⟨wr.heap.size, 0, none⟩ = some (.pointer (some ⟨P0, 0, none⟩)) ∧ w2.cell? ⟨wr.heap.size, 1, none⟩ = some (.int .i64 (A0 : Nat)) ∧
            Hid (Blk w2 c [.pointer (some ⟨pb, 0, none⟩), .int .i64 (s.size : Nat), v] TCa) ∧ Hid (BM w2 P0 Q0 (setI B0 true (ii : Nat))) ∧ Hid (Kept (fun x => x = Q0) w w2) := by
        refine (bitmap_Set P0 Q0 (wr.heap.size + 1) B0 true ii _ ((HBM.out.alloc _).alloc _) (by simp)).mono ?_
        rintro e w2 ⟨rfl, hb2, hk2⟩
        have hp2 : Blk w2 wr.heap.size [.pointer (some ⟨P0, 0, none⟩), .int .i64 (A0 : Nat)] TPg := ((Blk.new wr [.pointer (some ⟨P0, 0, none⟩), .int .i64 (A0 : Nat)] TPg).alloc _).kept hk2 (by show ¬ wr.heap.size = Q0; omega)
        have hc2 : Blk w2 c [.pointer (some ⟨pb, 0, none⟩), .int .i64 (s.size : Nat), v] TCa := (((H.out.keptNo hK).hc.alloc _).alloc _).kept hk2 hcq
        exact ⟨rfl, hp2.cell 0, hp2.cell 1, hc2, hb2, (((hK.alloc _).alloc _).trans' hk2 (fun _ _ e => e.elim) (fun _ _ e => e))⟩
      clear hfr hbm hglr hP0 hQ0 hB0 hA0 e1 e2 hcq
      go_wp2_with (first
        | (go_at_call 57; refine (bitmap_First P0 Q0 B0 false 0 _ (HBM.out.alloc _) (HGL.out.kept (Kept.alloc (Kept.refl NoB _) _) (fun _ e => e.elim)) (by omega)).mono ?_; rw [HFR.out]; rintro e w' ⟨rfl, rfl⟩)
        | (go_at_call 65; refine HSET.mono ?_; rintro e w2 ⟨rfl, p0, p1, HC2, HB2, HK2⟩)
        | (go_at_call 66; refine (slab_place c _ v s _ A0 ii _ HC2.out HOK.out HA.out hlt).mono ?_; rintro e w3 ⟨rfl, hk3⟩))
      go_ret2
      obtain ⟨e1, e2, e3, e4⟩ := HEQ.out
      rw [← e1, ← e2, ← e3, ← e4]
      exact ⟨by push_cast; rfl, HB2.out.kept hk3 (fun e => e) (fun e => e), HK2.out.trans' hk3 (fun _ _ e => e) (fun _ _ e => e.elim)⟩
end Go.Proofs.YtbkliamhignmfaaGreatDoor
