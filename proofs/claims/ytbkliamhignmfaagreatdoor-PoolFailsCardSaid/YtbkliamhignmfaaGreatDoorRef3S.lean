/- The reference, layer 3: Same. -/
import Derived.Test.YtbkliamhignmfaaGreatDoorProg
import Derived.Test.YtbkliamhignmfaaGreatDoorBuddyL
import Derived.LoopTactic
import Derived.RegionTactic
import Derived.BigRegion
import Derived.BigQuiet
import Derived.Deep.QuietTactic
import Derived.Laws.StructEq
namespace Go.Proofs.YtbkliamhignmfaaGreatDoor
open Go.RowKit

/-- A slice of blocks, as it reads. -/
def BkAt (w : World) (v : Value) (l : List (Nat × Nat)) : Prop := ∃ a cap, v = .slice a l.length cap ∧ ∀ (j : Nat) (hj : j < l.length), ∃ g o, a = some ⟨g, o, none⟩ ∧ g < w.heap.size ∧ w.cell? ⟨g, o + j * 2, none⟩ = some (.int .i64 (l[j].1 : Nat)) ∧ w.cell? ⟨g, o + j * 2 + 1, none⟩ = some (.int .i64 (l[j].2 : Nat))
theorem BkAt.of {w : World} {E : TypeId} {v : Value} {l : List (Nat × Nat)} (h : w.ownsRow 0 E 2 v l.length (bks l)) : BkAt w v l := by
  obtain ⟨a, cap, hv, h⟩ := ownsRow_at h
  refine ⟨a, cap, hv, fun j hj => ?_⟩
  obtain ⟨g, e, h1, h2, h3⟩ := h j hj
  exact ⟨g, 0, e, h1, by rw [Nat.zero_add]; exact h2, by rw [Nat.zero_add]; exact h3⟩
theorem BkAt.keptNo {w w' : World} {v : Value} {l : List (Nat × Nat)} (h : BkAt w v l) (k : Kept NoB w w') : BkAt w' v l := by
  obtain ⟨a, cap, hv, h⟩ := h
  refine ⟨a, cap, hv, fun j hj => ?_⟩
  obtain ⟨g, o, e, h1, h2, h3⟩ := h j hj
  exact ⟨g, o, e, Nat.lt_of_lt_of_le h1 k.size, (World.cell?_of_block (w := w) (k.block g h1 (fun e => e))).trans h2, (World.cell?_of_block (w := w) (k.block g h1 (fun e => e))).trans h3⟩

theorem bk_neq (a b c d : Int) (w : World) : (binOp .neq TBk (.agg #[.int .i64 a, .int .i64 b]) (.agg #[.int .i64 c, .int .i64 d])).run Tryz.prog w = .ok (.bool (!(a == c && b == d))) w := by
  have u3 := Tryz.underlying3
  have a3 := Tryz.isAgg3
  have z3 := Tryz.sizeOf3
  have hS : Tryz.prog.underlying TBk = some (.struct (Tryz.prog.fieldsOf TBk)) := by kernel_rfl
  have hp : Tryz.prog.stoodInHeld TBk = false := by kernel_rfl
  rw [run_neq_struct, show (10000 : Nat) = 9999 + 1 from rfl, run_equalIn_agg w 9999 TBk _ _ hS hp]
  simp only [Program.fieldsOf, Tryz.underlying108]
  go_simp
  by_cases h1 : a = c <;> by_cases h2 : b = d <;> simp [h1, h2]
theorem bk_guard : Tryz.prog.eqGuardType Tryz.prog.depth TBk = false := by kernel_rfl

def sameTo (l m : List (Nat × Nat)) (j : Nat) : Prop := l.take j = m.take j

set_option maxRecDepth 100000 in
set_option maxHeartbeats 1000000 in
theorem ref3_Same (u v : Value) (l m : List (Nat × Nat)) (w : World) (hu : BkAt w u l) (hv : BkAt w v m) (hl : l.length ≤ 1099511627776) (hm : m.length ≤ 1099511627776) :
    Calls Tryz.prog 26 #[u, v] w fun e w' => e = .returned (.bool (decide (l = m))) ∧ Kept NoB w w' := by
  obtain ⟨a, c, rfl, ha⟩ := hu
  obtain ⟨b, d, rfl, hb⟩ := hv
  by_cases hlen : l.length = m.length
  · have HA := Lib.hid ha
    have HB := Lib.hid hb
    have hlen' : m.length = l.length := hlen.symm
    have HL := Lib.hid hlen'
    rw [hlen']
    clear ha hb hlen hlen' hm
    go_enter Tryz.func26, Tryz.ntmps26
    go_wp2
    go_loopw [5] (fun x wr => ∃ j : Nat, j ≤ l.length ∧ x = .int .i64 j ∧ Hid (sameTo l m j) ∧ Kept NoB w wr) (fun x _ => l.length - (intOf x).toNat)
    case atStart => exact ⟨0, Nat.zero_le _, rfl, (show sameTo l m 0 by unfold sameTo; simp), Kept.refl _ _⟩
    case round =>
      obtain ⟨j, hj, rfl, hs, hK⟩ := hrel
      by_cases hlt : j < l.length
      · obtain ⟨g, o, rfl, h1, h2, h3⟩ := HA.out j hlt
        obtain ⟨g', o', rfl, h1', h2', h3'⟩ := HB.out j (by rw [HL.out]; exact hlt)
        have c0 : wr.cell? ⟨g, o + j * 2, none⟩ = some (.int .i64 (l[j].1 : Nat)) := (World.cell?_of_block (w := w) (hK.block g h1 (fun e => e))).trans h2
        have c1 : wr.cell? ⟨g, o + j * 2 + 1, none⟩ = some (.int .i64 (l[j].2 : Nat)) := (World.cell?_of_block (w := w) (hK.block g h1 (fun e => e))).trans h3
        have d0 : wr.cell? ⟨g', o' + j * 2, none⟩ = some (.int .i64 ((m[j]'(by rw [HL.out]; exact hlt)).1 : Nat)) := (World.cell?_of_block (w := w) (hK.block g' h1' (fun e => e))).trans h2'
        have d1 : wr.cell? ⟨g', o' + j * 2 + 1, none⟩ = some (.int .i64 ((m[j]'(by rw [HL.out]; exact hlt)).2 : Nat)) := (World.cell?_of_block (w := w) (hK.block g' h1' (fun e => e))).trans h3'
        clear h2 h3 h2' h3'
        obtain ⟨p0, hp0⟩ : ∃ p0, p0 = l[j].1 := ⟨_, rfl⟩
        obtain ⟨p1, hp1⟩ : ∃ p1, p1 = l[j].2 := ⟨_, rfl⟩
        obtain ⟨q0, hq0⟩ : ∃ q0, q0 = (m[j]'(by rw [HL.out]; exact hlt)).1 := ⟨_, rfl⟩
        obtain ⟨q1, hq1⟩ : ∃ q1, q1 = (m[j]'(by rw [HL.out]; exact hlt)).2 := ⟨_, rfl⟩
        rw [← hp0] at c0
        rw [← hp1] at c1
        rw [← hq0] at d0
        rw [← hq1] at d1
        have HP := Lib.hid (And.intro hp0 (And.intro hp1 (And.intro hq0 hq1)))
        clear hp0 hp1 hq0 hq1
        have hG := bk_guard
        have hN := fun W => bk_neq (p0 : Int) p1 q0 q1 W
        obtain ⟨r, hr⟩ : ∃ r, r = (!((p0 : Int) == q0 && (p1 : Int) == q1)) := ⟨_, rfl⟩
        rw [← hr] at hN
        have HR := Lib.hid hr
        clear hr
        cases r with
        | true =>
          go_wp2
          go_quiet (fail)
          go_wp2
          go_ret
          obtain ⟨e1, e2, e3, e4⟩ := HP.out
          have hne : ¬ l = m := fun e => by
            have hr := HR.out
            subst e
            rw [e3, e4, e1, e2] at hr
            simp at hr
          exact ⟨by rw [decide_eq_false hne]; rfl, hK.drewN _⟩
        | false =>
          go_wp2
          go_quiet (fail)
          go_wp2
          go_roundw
          case rel =>
            refine ⟨j + 1, by omega, by go_num, ?_, hK.drewN _⟩
            obtain ⟨e1, e2, e3, e4⟩ := HP.out
            have hr := HR.out
            simp at hr
            have hm : j < m.length := by rw [HL.out]; exact hlt
            show sameTo l m (j + 1)
            have hs' := hs.out
            unfold sameTo at hs' ⊢
            rw [List.take_succ_eq_append_getElem hlt, List.take_succ_eq_append_getElem hm, hs']
            congr 2
            exact Prod.ext (by rw [← e1, ← e3]; exact Int.ofNat.inj hr.1) (by rw [← e2, ← e4]; exact Int.ofNat.inj hr.2)
          case measure => simp [intOf]; omega
      · obtain rfl : j = l.length := by omega
        go_wp2
        go_ret
        have he : l = m := by
          have hs' := hs.out
          unfold sameTo at hs'
          rw [List.take_length] at hs'
          rw [hs', ← HL.out, List.take_length]
        exact ⟨by rw [decide_eq_true he]; rfl, hK⟩
  · have hne : ¬ l = m := fun e => hlen (by rw [e])
    have hb1 : ((l.length : Int) != (m.length : Int)) = true := by simp; omega
    rw [decide_eq_false hne]
    clear hne ha hb
    go_enter Tryz.func26, Tryz.ntmps26
    go_wp2
    go_ret
    exact ⟨rfl, Kept.refl _ _⟩
end Go.Proofs.YtbkliamhignmfaaGreatDoor
