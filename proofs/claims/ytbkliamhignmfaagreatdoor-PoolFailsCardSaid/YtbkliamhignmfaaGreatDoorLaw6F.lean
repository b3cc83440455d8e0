/- Law 6: PoolFails: the walk. -/
import Derived.Test.YtbkliamhignmfaaGreatDoorProg
import Derived.Test.YtbkliamhignmfaaGreatDoorPoolA
import Derived.Test.YtbkliamhignmfaaGreatDoorQuotaI
import Derived.Test.YtbkliamhignmfaaGreatDoorRef3S
import Derived.StillTailTactics
import Derived.Test.YtbkliamhignmfaaGreatDoorStep
namespace Go.Proofs.YtbkliamhignmfaaGreatDoor
open Go.RowKit

/-- What is done to a pool. -/
structure Act6 where
  kind : Int
  f : Int
  c : Int
  n : Int
structure ActAt (w : World) (a : Option Addr) (l : List Act6) : Prop where
  at_ : ∀ (j : Nat) (hj : j < l.length), ∃ g o, a = some ⟨g, o, none⟩ ∧ g < w.heap.size ∧ w.cell? ⟨g, o + j * 4, none⟩ = some (.int .i64 l[j].kind) ∧ w.cell? ⟨g, o + j * 4 + 1, none⟩ = some (.int .i64 l[j].f) ∧ w.cell? ⟨g, o + j * 4 + 2, none⟩ = some (.int .i64 l[j].c) ∧ w.cell? ⟨g, o + j * 4 + 3, none⟩ = some (.int .i64 l[j].n)
  rg : ∀ x ∈ l, x.c ≤ 9223372036854775807 ∧ x.n ≤ 9223372036854775807 ∧ -9223372036854775808 ≤ x.n ∧ -9223372036854775808 ≤ x.c
theorem ActAt.keptNo {w w' : World} {a : Option Addr} {l : List Act6} (h : ActAt w a l) (k : Kept NoB w w') : ActAt w' a l := by
  refine ⟨fun j hj => ?_, h.rg⟩
  obtain ⟨g, o, e, hg, c0, c1, c2, c3⟩ := h.at_ j hj
  have hb : ∀ z, w'.cell? ⟨g, z, none⟩ = w.cell? ⟨g, z, none⟩ := fun z => World.cell?_of_block (a := ⟨g, z, none⟩) (k.block g hg (fun e => e))
  exact ⟨g, o, e, Nat.lt_of_lt_of_le hg k.size, (hb _).trans c0, (hb _).trans c1, (hb _).trans c2, (hb _).trans c3⟩

/-- How many factories there are at most. -/
def QSmall (q : QS) (n : Nat) : Prop := q.next ≤ n ∧ q.fs.length ≤ n
theorem carve_small {q : QS} {n : Nat} (h : QSmall q n) (f x : Int) : QSmall (q.carve f x).2.2 (n + 1) := by
  obtain ⟨h1, h2⟩ := h
  have key : ∀ r : Int × Int × QS, r.2.2 = q → QSmall r.2.2 (n + 1) := fun r e => by rw [e]; exact ⟨by omega, by omega⟩
  unfold QS.carve
  split
  · exact key _ rfl
  · split
    · exact key _ rfl
    · split
      · split
        · exact key _ rfl
        · refine ⟨by show q.next + 1 ≤ n + 1; omega, ?_⟩
          have e : ∀ g, (fset q.fs f g).length = q.fs.length := fun g => by
            have := congrArg List.length (fset_keys q.fs f g)
            simpa using this
          show (fset q.fs f _ ++ [_]).length ≤ n + 1
          rw [List.length_append, e, List.length_singleton]
          omega
      · exact key _ rfl

theorem charge_small {q : QS} {n : Nat} (h : QSmall q n) (f x : Int) : QSmall (q.charge f x).2 n := by
  have e := congrArg List.length (charge_keys q f x)
  rw [List.length_map, List.length_map] at e
  refine ⟨?_, by rw [e]; exact h.2⟩
  have : (q.charge f x).2.next = q.next := by
    unfold QS.charge
    split
    · rfl
    · split
      · rfl
      · split <;> rfl
  rw [this]; exact h.1
theorem refund_small {q : QS} {n : Nat} (h : QSmall q n) (f x : Int) : QSmall (q.refund f x).2 n := by
  have e := congrArg List.length (refund_keys q f x)
  rw [List.length_map, List.length_map] at e
  refine ⟨?_, by rw [e]; exact h.2⟩
  have : (q.refund f x).2.next = q.next := by
    unfold QS.refund
    split
    · rfl
    · split <;> rfl
  rw [this]; exact h.1
theorem get_small {S : PS} {n : Nat} (h : QSmall S.qs n) (f c : Int) : QSmall (S.get f c).2.2.qs (n + 1) := by
  have up : ∀ {q : QS}, QSmall q n → QSmall q (n + 1) := fun h => ⟨Nat.le_succ_of_le h.1, Nat.le_succ_of_le h.2⟩
  unfold PS.get
  split
  · exact up h
  · split
    · exact up (charge_small h _ _)
    · split
      · exact up (refund_small (charge_small h _ _) _ _)
      · exact up (charge_small h _ _)

theorem pool_Ids (h : PH) (F : Nat → Prop) (S : PS) (w : World) (H : PoolAt w h F S) (hx : S.qs.next ≤ 1073741824) (hlen : S.qs.fs.length ≤ 1073741824) :
    Calls Tryz.prog 30 #[.pointer (some ⟨h.t, 0, none⟩)] w fun e w' => ∃ (v : Value) (ss : List Int), e = .returned v ∧ ss.length ≤ S.qs.fs.length ∧
      w'.ownsRow w.heap.size 3 1 v ss.length (ss.map (Value.int .i64)) ∧ Kept NoB w w' := by
  obtain ⟨bl, v, cp, cq, P, hF⟩ := H.ex
  exact quota_Ids h.t h.mb bl S.qs w P.q hx hlen
/-- A slice of numbers, and one of blocks, in blocks of G. -/
def IntsAt (w : World) (G : Nat → Prop) (v : Value) (ss : List Int) : Prop := ∃ a cap, v = .slice a ss.length cap ∧ ∀ (j : Nat) (hj : j < ss.length), ∃ g, a = some ⟨g, 0, none⟩ ∧ G g ∧ g < w.heap.size ∧ w.cell? ⟨g, j, none⟩ = some (.int .i64 ss[j])
theorem IntsAt.of {w : World} {E : TypeId} {G : Nat → Prop} {v : Value} {ss : List Int} {base : Nat} (h : w.ownsRow base E 1 v ss.length (ss.map (Value.int .i64))) (hG : ∀ b, base ≤ b → b < w.heap.size → G b) : IntsAt w G v ss := by
  by_cases h0 : 0 < ss.length
  · rcases h.2 with ⟨e, e0⟩ | ⟨g, cap, cur, e, h1, h2⟩
    · omega
    · obtain ⟨g', c, all, hv, hr, _, _⟩ := ownsRow_form (ownsRow_zero h) h0
      have hgg : g = g' := by rw [e] at hv; injection hv with hv; injection hv with hv; injection hv
      subst hgg
      exact ⟨_, _, hv, fun j hj => ⟨g, rfl, hG g h1 hr.blk.lt, hr.blk.lt, hr.cell j _ (by simp [hj])⟩⟩
  · obtain ⟨a, cap, hv⟩ := ownsRow_slice h
    exact ⟨a, cap, hv, fun j hj => by omega⟩
theorem IntsAt.kept {w w' : World} {G H : Nat → Prop} {v : Value} {ss : List Int} (h : IntsAt w G v ss) (k : Kept H w w') (hG : ∀ b, G b → ¬ H b) : IntsAt w' G v ss := by
  obtain ⟨a, cap, hv, h⟩ := h
  refine ⟨a, cap, hv, fun j hj => ?_⟩
  obtain ⟨g, e, h1, h2, h3⟩ := h j hj
  exact ⟨g, e, h1, Nat.lt_of_lt_of_le h2 k.size, (World.cell?_of_block (a := ⟨g, j, none⟩) (k.block g h2 (hG g h1))).trans h3⟩
theorem IntsAt.mono {w : World} {G H : Nat → Prop} {v : Value} {ss : List Int} (h : IntsAt w G v ss) (hG : ∀ b, G b → b < w.heap.size → H b) : IntsAt w H v ss := by
  obtain ⟨a, cap, hv, h⟩ := h
  refine ⟨a, cap, hv, fun j hj => ?_⟩
  obtain ⟨g, e, h1, h2, h3⟩ := h j hj
  exact ⟨g, e, hG g h1 h2, h2, h3⟩
def BlksAt (w : World) (G : Nat → Prop) (v : Value) (l : List (Nat × Nat)) : Prop := ∃ a cap, v = .slice a l.length cap ∧ ∀ (j : Nat) (hj : j < l.length), ∃ g, a = some ⟨g, 0, none⟩ ∧ G g ∧ g < w.heap.size ∧ w.cell? ⟨g, j * 2, none⟩ = some (.int .i64 (l[j].1 : Nat)) ∧ w.cell? ⟨g, j * 2 + 1, none⟩ = some (.int .i64 (l[j].2 : Nat))
theorem BlksAt.of {w : World} {E : TypeId} {G : Nat → Prop} {v : Value} {l : List (Nat × Nat)} (h : w.ownsRow 0 E 2 v l.length (bks l)) (hG : ∀ b, v.ownBlock = some b → b < w.heap.size → G b) : BlksAt w G v l := by
  obtain ⟨a, cap, hv, h⟩ := ownsRow_at h
  refine ⟨a, cap, hv, fun j hj => ?_⟩
  obtain ⟨g, e, h1, h2, h3⟩ := h j hj
  exact ⟨g, e, hG g (by rw [hv, e]; rfl) h1, h1, h2, h3⟩
theorem BlksAt.kept {w w' : World} {G H : Nat → Prop} {v : Value} {l : List (Nat × Nat)} (h : BlksAt w G v l) (k : Kept H w w') (hG : ∀ b, G b → ¬ H b) : BlksAt w' G v l := by
  obtain ⟨a, cap, hv, h⟩ := h
  refine ⟨a, cap, hv, fun j hj => ?_⟩
  obtain ⟨g, e, h1, h2, h3, h4⟩ := h j hj
  have hb : ∀ z, w'.cell? ⟨g, z, none⟩ = w.cell? ⟨g, z, none⟩ := fun z => World.cell?_of_block (a := ⟨g, z, none⟩) (k.block g h2 (hG g h1))
  exact ⟨g, e, h1, Nat.lt_of_lt_of_le h2 k.size, (hb _).trans h3, (hb _).trans h4⟩
theorem BlksAt.mono {w : World} {G H : Nat → Prop} {v : Value} {l : List (Nat × Nat)} (h : BlksAt w G v l) (hG : ∀ b, G b → b < w.heap.size → H b) : BlksAt w H v l := by
  obtain ⟨a, cap, hv, h⟩ := h
  refine ⟨a, cap, hv, fun j hj => ?_⟩
  obtain ⟨g, e, h1, h2, h3⟩ := h j hj
  exact ⟨g, e, hG g h1 h2, h2, h3⟩
theorem BlksAt.bk {w : World} {G : Nat → Prop} {v : Value} {l : List (Nat × Nat)} (h : BlksAt w G v l) : BkAt w v l := by
  obtain ⟨a, cap, hv, h⟩ := h
  refine ⟨a, cap, hv, fun j hj => ?_⟩
  obtain ⟨g, e, h1, h2, h3, h4⟩ := h j hj
  exact ⟨g, 0, e, h2, by rw [Nat.zero_add]; exact h3, by rw [Nat.zero_add]; exact h4⟩

/-- Two lists of the same blocks, both by rising addresses, where no two begin at one place, are one. -/
theorem sorted_one {l m : List (Nat × Nat)} (hp : l.Perm m) (hl : l.Pairwise (fun x y => x.1 ≤ y.1)) (hm : m.Pairwise (fun x y => x.1 ≤ y.1)) (hd : ∀ x ∈ l, ∀ y ∈ l, x.1 = y.1 → x = y) : l = m := by
  refine List.Perm.eq_of_pairwise (le := fun x y => x.1 ≤ y.1) (fun a b ha hb h1 h2 => ?_) hl hm hp
  exact hd a ha b (hp.mem_iff.2 hb) (Nat.le_antisymm h1 h2)
theorem freeL_mem {s : BS} {x : Nat × Nat} (h : x ∈ s.freeL) : ∃ i, x.2 ≤ s.top ∧ bit (s.free x.2) i = true ∧ x.1 = 1024 * i * 2 ^ x.2 := by
  unfold BS.freeL freeTo at h
  obtain ⟨k, hk, hx⟩ := List.mem_flatMap.1 h
  unfold freeAt at hx
  obtain ⟨i, hi, rfl⟩ := List.mem_map.1 hx
  have := List.mem_range.1 hk
  unfold usedFrom at hi
  have h2 := (List.mem_filter.1 hi).2
  simp at h2
  exact ⟨i, by show k ≤ s.top; omega, h2, rfl⟩
theorem freeL_one {s : BS} (h : GB s) : ∀ x ∈ s.freeL, ∀ y ∈ s.freeL, x.1 = y.1 → x = y := by
  have key : ∀ k i k' i', k < k' → k' ≤ s.top → bit (s.free k) i = true → bit (s.free k') i' = true → 1024 * i * 2 ^ k ≠ 1024 * i' * 2 ^ k' := by
    intro k i k' i' h1 h2 h3 h4 e
    refine h.gf.disj k k' i i' h1 h2 h3 h4 ?_
    have e2 : 2 ^ k' = 2 ^ (k' - k) * 2 ^ k := by rw [← Nat.pow_add]; congr 1; omega
    rw [e2, ← Nat.mul_assoc] at e
    have e3 := Nat.eq_of_mul_eq_mul_right (Nat.two_pow_pos k) e
    rw [Nat.mul_assoc] at e3
    have e4 := Nat.eq_of_mul_eq_mul_left (show 0 < 1024 by omega) e3
    rw [e4, Nat.mul_div_cancel _ (Nat.two_pow_pos _)]
  intro x hx y hy e
  obtain ⟨i, a1, a2, a3⟩ := freeL_mem hx
  obtain ⟨j, b1, b2, b3⟩ := freeL_mem hy
  rw [a3, b3] at e
  rcases Nat.lt_trichotomy x.2 y.2 with h1 | h1 | h1
  · exact absurd e (key _ _ _ _ h1 b1 a2 b2)
  · refine Prod.ext ?_ h1
    rw [a3, b3, e]
  · exact absurd e.symm (key _ _ _ _ h1 a1 b2 a2)

theorem get_le {S : PS} (h : S.good) (hsok : ∀ k : Nat, 1 ≤ k → k ≤ 7 → (S.cs k).ok) (f c : Int) : (S.get f c).1 ≤ 2147483648 := by
  unfold PS.get
  by_cases h0 : pcost c = 0
  · rw [if_pos h0]; show (0 : Int) ≤ _; omega
  · rw [if_neg h0]
    obtain ⟨k, rfl, k0, k1⟩ := pcost_pos h0
    by_cases hr : (S.qs.charge f (pcost k)).1 = 0
    · rw [if_neg (by simpa using hr), Int.toNat_natCast]
      cases ht : (S.cs k).take S.bs with
      | none => show (0 : Int) ≤ _; omega
      | some x =>
        obtain ⟨a, s', bs'⟩ := x
        have hr := (h.room k0 k1 (hsok k k0 k1) ht).1.2.2.1
        have hN := h.N
        have h2 : 2 ^ S.bs.top ≤ 2 ^ 20 := Nat.pow_le_pow_right (by omega) h.gb.ok.t1
        have e : (2 : Nat) ^ 20 = 1048576 := by decide
        show (a : Int) ≤ _
        omega
    · rw [if_pos hr]; show (0 : Int) ≤ _; omega
theorem put_cost {S : PS} {f c a : Int} (h : (S.put f c a).1 = 0) : 0 < pcost c := by
  apply Nat.pos_of_ne_zero
  intro e
  unfold PS.put at h
  rw [if_pos e] at h
  cases h

set_option maxRecDepth 100000 in
set_option maxHeartbeats 4000000 in
theorem law6_PoolFails (lim : Int) (h0 : 0 ≤ lim) (h1 : lim ≤ 65535) (a : Option Addr) (cap : Nat) (l : List Act6) (f c x : Int) (hc : c ≤ 9223372036854775807) (hx : x ≤ 9223372036854775807) (w : World) (hg : Glob w) (hl : ActAt w a l) (hlen : l.length ≤ 9223372036854775807) :
    Calls Tryz.prog 4 #[.int .u16 lim, .slice a l.length cap, .int .i64 f, .int .i64 c, .int .i64 x] w fun e w' => e = .returned (.bool true) ∧ Kept NoB w w' := by
  have HAL := Lib.hid (law6_alive w hg)
  have HG := Lib.hid hg
  have HL := Lib.hid hl
  have HN := Lib.hid (fun w' (hg' : Glob w') => pool_New_ok (2 ^ 16) 16 lim rfl (by omega) (by omega) h0 (by have : ((2 ^ 16 : Nat) : Int) = 65536 := rfl; omega) w' hg')
  rw [show (((2 : Nat) ^ 16 : Nat) : Int) = 65536 from rfl] at HN
  clear hg hl
  by_cases h100 : 100 < l.length
  · go_enter Tryz.func4, Tryz.ntmps4
    go_wp2_with (go_at_call 5; go_loud (refine HAL.out.mono ?_; rintro e w1 ⟨rfl, k1⟩))
    go_ret
    exact ⟨rfl, k1⟩
  · go_enter Tryz.func4, Tryz.ntmps4
    go_wp2_with (first
      | (go_at_call 5; go_loud (refine HAL.out.mono ?_; rintro e w1 ⟨rfl, k1⟩; have K1 := Lib.hid k1; clear k1))
      | (go_at_call 6; go_loud (refine (HN.out _ (HG.out.keptNo K1.out)).mono ?_; rintro e w2 ⟨h, F, rfl, hp2, hk2, hf2⟩; have K2 := Lib.hid (K1.out.trans hk2); have L2 := Lib.hid (show LP w NoB w2 h (PS.new 16 lim) from ⟨F, hp2, fun b hb => ⟨Nat.le_trans K1.out.size (hf2 b hb), fun e => e⟩, fun b e => e.elim⟩); clear hp2 hk2 hf2)))
    go_loopw [12] (fun y wr => ∃ i : Nat, i ≤ l.length ∧ y = .int .i64 i ∧ ∃ S, Hid (LP w NoB wr h S ∧ QSmall S.qs (i + 1) ∧ Kept NoB w wr)) (fun y _ => l.length - (intOf y).toNat)
    case atStart => exact ⟨0, Nat.zero_le _, rfl, PS.new 16 lim, L2.out, ⟨Nat.le_refl _, Nat.le_refl _⟩, K2.out⟩
    case round =>
      obtain ⟨i, hi, rfl, S, HR⟩ := hrel
      by_cases hlt : i < l.length
      · obtain ⟨g, o, rfl, hgl, c0, c1, c2, c3⟩ := (HL.out.keptNo HR.out.2.2).at_ i hlt
        obtain ⟨r1, r2, r3, r4⟩ := HL.out.rg _ (List.getElem_mem hlt)
        obtain ⟨A, hA⟩ : ∃ A, A = l[i] := ⟨_, rfl⟩
        rw [← hA] at c0 c1 c2 c3 r1 r2 r3 r4
        obtain ⟨ak, af, ac, an⟩ := A
        simp only at c0 c1 c2 c3 r1 r2 r3 r4
        clear hA
        by_cases hk3 : ak = 3
        · subst hk3
          have hxx : S.qs.next ≤ 1073741823 := by have := HR.out.2.1.1; omega
          have HCV := Lib.hid ((HR.out.1.keptNo (Kept.drew (Kept.refl _ _))).call (w := wr.drew) HR.out.2.2.size (fun F hp => pool_Carve h F S af an wr.drew hp hxx r2))
          have HQ := Lib.hid ((by
            obtain ⟨F, hp⟩ := HR.out.1.at
            exact (pool_Quota h F S wr.drew (hp.keptNo (Kept.drew (Kept.refl _ _)))).mono (fun e w' ⟨h1, h2⟩ => ⟨h1, h2.symm⟩) : Calls Tryz.prog 12 #[.pointer (some ⟨h.p, 0, none⟩)] wr.drew fun e w' => e = .returned (.pointer (some ⟨h.t, 0, none⟩)) ∧ w' = wr.drew))
          go_wp2
          refine wp_region_still_tail 12 (by kernel_rfl) (by kernel_rfl) ?_
          simp only [List.take_succ_cons, List.take_zero, List.drop_succ_cons, List.drop_zero]
          change wpStill _ _ wr.drew (fun a' => wpList _ _ _ _ a' wr.drew) _ _
          repeat (first | still_step | still_call HQ.out)
          refine wpStill_nil ?_
          go_wp2_with (go_at_call 22; go_loud (refine HCV.out.mono ?_; rintro e w3 ⟨rfl, l3, k3⟩; have L3 := Lib.hid l3; have K3 := Lib.hid k3; clear l3 k3))
          go_roundw
          case rel => exact ⟨i + 1, by omega, by go_num, _, L3.out, carve_small HR.out.2.1 _ _, HR.out.2.2.drew.andNew K3.out (fun b hb => .inr hb.1)⟩
          case measure => simp [intOf]; omega
        · have hkb : (ak == 3) = false := by simpa using hk3
          have HGT := Lib.hid ((HR.out.1.keptNo (Kept.drew (Kept.refl _ _))).call (w := wr.drew) HR.out.2.2.size (fun F hp => pool_Get h F S af ac r1 wr.drew hp))
          clear hk3
          go_wp2
          refine wp_region_still_tail 11 (by kernel_rfl) (by kernel_rfl) ?_
          simp only [List.take_succ_cons, List.take_zero, List.drop_succ_cons, List.drop_zero]
          change wpStill _ _ wr.drew (fun a' => wpList _ _ _ _ a' wr.drew) _ _
          repeat still_step
          refine wpStill_nil ?_
          go_wp2_with (go_at_call 8; go_loud (refine HGT.out.mono ?_; rintro e w3 ⟨rfl, l3, k3⟩; have L3 := Lib.hid l3; have K3 := Lib.hid k3; clear l3 k3))
          go_roundw
          case rel => exact ⟨i + 1, by omega, by go_num, _, L3.out, get_small HR.out.2.1 _ _, HR.out.2.2.drew.andNew K3.out (fun b hb => .inr hb.1)⟩
          case measure => simp [intOf]; omega
      · obtain rfl : i = l.length := by omega
        obtain ⟨w3, hw3⟩ : ∃ w3, w3 = wr := ⟨_, rfl⟩
        subst hw3
        go_wp2_with (first
          | (go_at_call 13; go_loud (obtain ⟨Fx, hx⟩ := HR.out.1.at; refine (pool_Blocks h Fx S _ hx).mono ?_; rintro e w' ⟨rfl, rfl⟩; clear hx))
          | (go_at_call 27; go_loud (obtain ⟨Fx, hx⟩ := HR.out.1.at; refine (pool_Free h Fx S _ hx).mono ?_; rintro e w4 ⟨vf, lf, rfl, p1, p2, p3, p4, k4⟩; have HF := Lib.hid (And.intro p1 (And.intro p2 (And.intro p3 p4))); have K4 := Lib.hid k4; clear hx p1 p2 p3 p4 k4))
          | (go_at_call 12; go_loud (obtain ⟨Fx, hx⟩ := (HR.out.1.keptNo K4.out).at; refine (pool_Quota h Fx S _ hx).mono ?_; rintro e w' ⟨rfl, rfl⟩; clear hx))
          | (go_at_call 30; go_loud (obtain ⟨Fx, hx⟩ := (HR.out.1.keptNo K4.out).at; refine (pool_Ids h Fx S _ hx (by have := HR.out.2.1.1; omega) (by have := HR.out.2.1.2; omega)).mono ?_; rintro e w5 ⟨vi, ss, rfl, q1, q2, k5⟩; have hss : ss.length ≤ 101 := (by have := HR.out.2.1.2; omega); obtain ⟨ia, icap, hvi⟩ := ownsRow_slice q2; subst hvi; have HI := Lib.hid q2; have K5 := Lib.hid k5; clear hx q1 q2 k5)))
        have K35 := Lib.hid (K4.out.trans K5.out)
        have HIA := Lib.hid (IntsAt.of (G := fun b => w3.heap.size ≤ b) HI.out (fun b hb _ => Nat.le_trans K4.out.size hb))
        go_loopw [15, 16] (fun u y wr => ∃ i : Nat, i ≤ ss.length ∧ y = .int .i64 i ∧ Hid (wr.ownsRow w5.heap.size 3 1 u i ((ss.take i).map fun id => .int .i64 (S.qs.use id))) ∧ Hid (Kept NoB w5 wr)) (fun _ y _ => ss.length - (intOf y).toNat)
        case atStart => exact ⟨0, Nat.zero_le _, rfl, World.ownsRow_nil _ _ _ _, Kept.refl _ _⟩
        case round =>
          obtain ⟨i, hi', rfl, HU, HK6⟩ := hrel
          by_cases hlt2 : i < ss.length
          · obtain ⟨ia', icap', hvi, hia⟩ := HIA.out.kept HK6.out (fun _ _ e => e)
            injection hvi with e1 e2 e3
            subst e1; subst e3
            obtain ⟨g, rfl, hgG, hgl, ci⟩ := hia i hlt2
            obtain ⟨X, hX⟩ : ∃ X, X = ss[i] := ⟨_, rfl⟩
            rw [← hX] at ci
            have HX := Lib.hid hX
            clear hX hia
            have HQ := Lib.hid ((by
              obtain ⟨F, hp⟩ := ((HR.out.1.keptNo K35.out).keptNo HK6.out).at
              exact (pool_Quota h F S wr.drew (hp.keptNo (Kept.drew (Kept.refl _ _)))).mono (fun e w' ⟨h1, h2⟩ => ⟨h1, h2.symm⟩) : Calls Tryz.prog 12 #[.pointer (some ⟨h.p, 0, none⟩)] wr.drew fun e w' => e = .returned (.pointer (some ⟨h.t, 0, none⟩)) ∧ w' = wr.drew))
            have HUS := Lib.hid ((by
              obtain ⟨F, hp⟩ := ((HR.out.1.keptNo K35.out).keptNo HK6.out).at
              exact pool_Use h F S X wr.drew (hp.keptNo (Kept.drew (Kept.refl _ _))) : Calls Tryz.prog 25 #[.pointer (some ⟨h.t, 0, none⟩), .int .i64 X] wr.drew fun e w' => e = .returned (.int .i64 (S.qs.use X)) ∧ Kept NoB wr.drew w'))
            obtain ⟨U, hU⟩ : ∃ U, U = S.qs.use X := ⟨_, rfl⟩
            rw [← hU] at HUS
            have HUE := Lib.hid hU
            clear hU
            obtain ⟨i0, hi0, hz0, hz1, hz2⟩ := info_parts infoInt
            go_wp2
            go_region_law (first
              | (go_loud (refine step_calls rfl 12 _ _ rfl (enters_of Tryz.func12 (by kernel_rfl) rfl) #[.pointer (some ⟨h.p, 0, none⟩)] (by simp [Act.eval, Act.put]) HQ.out ?_; rintro e w' ⟨rfl, rfl⟩; refine ⟨_, rfl, ?_⟩))
              | (go_loud (refine step_calls rfl 25 _ _ rfl (enters_of Tryz.func25 (by kernel_rfl) rfl) #[.pointer (some ⟨h.t, 0, none⟩), .int .i64 X] (by simp [Act.eval, Act.put]) HUS.out ?_; rintro e w7 ⟨rfl, k7⟩; have K7 := Lib.hid ((HK6.out.drew).trans k7); have HU7 := Lib.hid (ownsRow_kept HU.out ((Kept.refl NoB wr).drew.trans k7) (fun _ _ e => e)); clear k7; refine ⟨_, rfl, ?_⟩))
              | (go_loud (refine step_append_own rfl _ _ 37 rfl w5.heap.size 3 i0 (.int .i64 0) 1 8 Tryz.underlying37 hi0 hz0 hz1 hz2 rfl (by decide) u15 i _ (by simp [Act.eval, Act.put]) (ownsRow_kept HU7.out (Kept.alloc (Kept.refl NoB _) _) (fun _ _ e => e)) ⟨w7.heap.size, 0, none⟩ 1 1 [.int .i64 U] (by simp [Act.eval, Act.put]) rfl (cell_new_k w7 [.int .i64 U] 3) (by simp [Value.oneCell']) (by unfold maxLen; omega) (by omega) (by have := K7.out.size; simp; omega) ?_; intro v' w8 hown' hgrow; have HO := Lib.hid hown'; have HK8 := Lib.hid (Kept.grown (K7.out.alloc _) hgrow (fun b e => .inr (ownsRow_base HU.out e))); clear hown' hgrow)))
            all_goals
              go_wp2
              go_roundw
              case rel =>
                refine ⟨i + 1, by omega, by go_num, ?_, HK8.out⟩
                have hO := HO.out
                rw [HUE.out, HX.out] at hO
                rw [List.take_succ_eq_append_getElem hlt2, List.map_append]
                exact hO
              case measure => simp [intOf]; omega
          · obtain rfl : i = ss.length := by omega
            obtain ⟨w6, hw6⟩ : ∃ w6, w6 = wr := ⟨_, rfl⟩
            subst hw6
            have K36 := Lib.hid (K35.out.trans HK6.out)
            have L6 := Lib.hid (HR.out.1.keptG K36.out)
            have hus : (ss.map S.qs.use).length = ss.length := List.length_map _
            have HIU : Hid (IntsAt w6 (grow NoB w3 w6) u15 (ss.map S.qs.use)) := by
              have h := HU.out
              rw [List.take_length] at h
              refine IntsAt.of (base := w5.heap.size) (E := 3) ?_ (fun b hb hb2 => .inr ⟨Nat.le_trans K35.out.size hb, hb2⟩)
              rw [hus, List.map_map]
              exact h
            have HII : Hid (IntsAt w6 (grow NoB w3 w6) (.slice ia ss.length icap) ss) := (HIA.out.kept HK6.out (fun _ _ e => e)).mono (fun b hb hb2 => .inr ⟨hb, hb2⟩)
            have HBB : Hid (BlksAt w6 (grow NoB w3 w6) vf lf) := ((BlksAt.of (G := fun b => w3.heap.size ≤ b) HF.out.2.2.1 (fun b hb _ => HF.out.2.2.2 b hb)).kept (K5.out.trans HK6.out) (fun _ _ e => e)).mono (fun b hb hb2 => .inr ⟨hb, hb2⟩)
            have K6 := Lib.hid (HR.out.2.2.trans K36.out)
            have HGT := Lib.hid (L6.out.call K6.out.size (fun F hp => pool_Get h F S f c hc w6 hp))
            have HOUT : Hid (∀ b, grow NoB w3 w6 b → ¬ Out w (grow NoB w3 w6) b) := fun b hb e => e.2 hb
            have HFL : Hid (∀ l1 : List (Nat × Nat), l1.Perm S.bs.freeL → l1.Pairwise (fun x y => x.1 ≤ y.1) → decide (l1 = lf) = true) := fun l1 h1 h2 => by
              obtain ⟨Fx, hx⟩ := L6.out.at
              exact decide_eq_true (sorted_one (h1.trans HF.out.1.symm) h2 HF.out.2.1 (fun x hx' y hy => freeL_one hx.good.gb x (h1.mem_iff.1 hx') y (h1.mem_iff.1 hy)))
            have HFN : Hid (∀ l1 : List (Nat × Nat), l1.Perm S.bs.freeL → l1.length ≤ 1099511627776) := fun l1 h1 => by
              obtain ⟨Fx, hx⟩ := L6.out.at
              have := freeTo_len S.bs hx.good.gb.ok (S.bs.top + 1) (Nat.le_refl _)
              have := hx.good.gb.ok.t1
              rw [h1.length_eq]
              unfold BS.freeL; omega
            have hlf := HFN.out lf HF.out.1
            by_cases hget : (S.get f c).2.1 = 0
            · obtain ⟨g1, g2, g3⟩ : 0 < pcost c ∧ ((S.get f c).2.2.put f c (S.get f c).1).1 = 0 ∧ ((S.get f c).2.2.put f c (S.get f c).1).2.bs = S.bs := by
                obtain ⟨Fx, hx⟩ := L6.out.at
                exact get_oks hx.good hx.sok hx.qok hget
              obtain ⟨X, hX⟩ : ∃ X, X = (S.get f c).1 := ⟨_, rfl⟩
              have hXle : X ≤ 9223372036854775807 := by
                obtain ⟨Fx, hx⟩ := L6.out.at
                have := get_le hx.good hx.sok f c
                omega
              have hgt := HGT.out
              rw [← hX] at g2 g3 hgt
              rw [hget] at hgt
              obtain ⟨S1, hS1⟩ : ∃ S1, S1 = (S.get f c).2.2 := ⟨_, rfl⟩
              rw [← hS1] at g2 g3 hgt
              have HGT2 := Lib.hid hgt
              have HG3 := Lib.hid g3
              have HG2 := Lib.hid g2
              have hpc : decide (0 < ((pcost c : Nat) : Int)) = true := by simp; omega
              have hpc2 : (0 : Int) < ((pcost c : Nat) : Int) := by omega
              clear hX hgt g2 g3 hS1 hget
              go_wp2_with (first
                | (go_at_call 8; go_loud (refine HGT2.out.mono ?_; rintro e w7 ⟨rfl, l7, k7⟩; have L7 := Lib.hid l7; have K7 := Lib.hid (K6.out.andNew k7 (fun b hb => .inr hb.1)); have HBB7 := Lib.hid (HBB.out.kept k7 HOUT.out); clear l7 k7))
                | (go_at_call 19; go_loud (refine (pool_Cost c hc _ L7.out.gl).mono ?_; rintro e w' ⟨rfl, rfl⟩))
                | (go_at_call 9; go_loud (refine (L7.out.call K7.out.size (fun F hp => pool_Put h F S1 f c X hc hXle _ hp)).mono ?_; rw [HG2.out]; rintro e w8 ⟨rfl, l8, k8⟩; have L8 := Lib.hid l8; have K8 := Lib.hid (K7.out.andNew k8 (fun b hb => .inr hb.1)); have HBB8 := Lib.hid (HBB7.out.kept k8 HOUT.out); clear l8 k8))
                | (go_at_call 13; go_loud (obtain ⟨Fx, hx⟩ := L8.out.at; refine (pool_Blocks h Fx _ _ hx).mono ?_; rintro e w' ⟨rfl, rfl⟩; clear hx))
                | (go_at_call 27; go_loud (obtain ⟨Fx, hx⟩ := L8.out.at; refine (pool_Free h Fx _ _ hx).mono ?_; rw [HG3.out]; rintro e w9 ⟨v9, l9, rfl, p1, p2, p3, p4, k9⟩; have HF9 := Lib.hid (And.intro p1 p2); have HR9 := Lib.hid (BkAt.of p3); have HBB9 := Lib.hid (HBB8.out.kept k9 (fun _ _ e => e)); have K9 := Lib.hid (K8.out.trans k9); clear hx p1 p2 p3 p4 k9))
                | (go_at_call 26; go_loud (refine (ref3_Same v9 vf l9 lf _ HR9.out HBB9.out.bk (HFN.out _ HF9.out.1) hlf).mono ?_; rw [HFL.out _ HF9.out.1 HF9.out.2]; rintro e w10 ⟨rfl, k10⟩; have K10 := Lib.hid (K9.out.trans k10); clear k10)))
              go_ret
              exact ⟨rfl, K10.out⟩
            · obtain ⟨g1, g2⟩ : (S.get f c).1 = 0 ∧ (S.get f c).2.2 = S := by
                obtain ⟨Fx, hx⟩ := L6.out.at
                exact get_fails hx.qok hget
              have hgt := HGT.out
              rw [g1, g2] at hgt
              obtain ⟨E, hE⟩ : ∃ E, E = (S.get f c).2.1 := ⟨_, rfl⟩
              rw [← hE] at hgt hget
              have hgb : (E == 0) = false := by simpa using hget
              have HGT2 := Lib.hid hgt
              clear hgt g1 g2 hE hget
              by_cases hput : (S.put f c x).1 = 0
              · have hpc := put_cost hput
                have hpc2 : (0 : Int) < ((pcost c : Nat) : Int) := by omega
                have HPT := Lib.hid hput
                clear hput
                go_wp2_with (first
                  | (go_at_call 8; go_loud (refine HGT2.out.mono ?_; rintro e w7 ⟨rfl, l7, k7⟩; have L7 := Lib.hid l7; have K7 := Lib.hid (K6.out.andNew k7 (fun b hb => .inr hb.1)); clear l7 k7))
                  | (go_at_call 9; go_loud (refine (L7.out.call K7.out.size (fun F hp => pool_Put h F S f c x hc hx _ hp)).mono ?_; rw [HPT.out]; rintro e w8 ⟨rfl, l8, k8⟩; have L8 := Lib.hid l8; have K8 := Lib.hid (K7.out.andNew k8 (fun b hb => .inr hb.1)); clear l8 k8))
                  | (go_at_call 19; go_loud (refine (pool_Cost c hc _ L8.out.gl).mono ?_; rintro e w' ⟨rfl, rfl⟩)))
                go_ret
                exact ⟨rfl, K8.out⟩
              · have hps : (S.put f c x).2 = S := by
                  obtain ⟨Fx, hx'⟩ := L6.out.at
                  exact put_fails hx'.sok hput
                obtain ⟨R, hR⟩ : ∃ R, R = (S.put f c x).1 := ⟨_, rfl⟩
                have HPT := Lib.hid (And.intro hR hps)
                rw [← hR] at hput
                have hrb : (R == 0) = false := by simpa using hput
                clear hput hps hR
                go_wp2_with (first
                  | (go_at_call 8; go_loud (refine HGT2.out.mono ?_; rintro e w7 ⟨rfl, l7, k7⟩; have L7 := Lib.hid l7; have K7 := Lib.hid (K6.out.andNew k7 (fun b hb => .inr hb.1)); have HBB7 := Lib.hid (HBB.out.kept k7 HOUT.out); have HIU7 := Lib.hid (HIU.out.kept k7 HOUT.out); have HII7 := Lib.hid (HII.out.kept k7 HOUT.out); clear l7 k7))
                  | (go_at_call 9; go_loud (refine (L7.out.call K7.out.size (fun F hp => pool_Put h F S f c x hc hx _ hp)).mono ?_; rw [HPT.out.2, ← HPT.out.1]; rintro e w8 ⟨rfl, l8, k8⟩; have L8 := Lib.hid l8; have K8 := Lib.hid (K7.out.andNew k8 (fun b hb => .inr hb.1)); have HBB8 := Lib.hid (HBB7.out.kept k8 HOUT.out); have HIU8 := Lib.hid (HIU7.out.kept k8 HOUT.out); have HII8 := Lib.hid (HII7.out.kept k8 HOUT.out); clear l8 k8)))
                go_loopw [19] (fun y wr => ∃ i : Nat, i ≤ ss.length ∧ y = .int .i64 i ∧ Hid (Kept NoB w8 wr)) (fun y _ => ss.length - (intOf y).toNat)
                case atStart => exact ⟨0, Nat.zero_le _, rfl, Kept.refl _ _⟩
                case round =>
                  obtain ⟨i, hi3, rfl, HK9⟩ := hrel
                  by_cases hlt3 : i < ss.length
                  · obtain ⟨ia', icap', hvi, hia⟩ := HII8.out.kept HK9.out (fun _ _ e => e)
                    injection hvi with e1 e2 e3
                    subst e1; subst e3
                    obtain ⟨g, rfl, hgG, hgl, ci⟩ := hia i hlt3
                    obtain ⟨ua, ucap, hvu, hua⟩ := HIU8.out.kept HK9.out (fun _ _ e => e)
                    subst hvu
                    obtain ⟨g', rfl, hgG', hgl', cu⟩ := hua i (by rw [hus]; exact hlt3)
                    rw [List.getElem_map] at cu
                    rw [hus]
                    obtain ⟨X, hX⟩ : ∃ X, X = ss[i] := ⟨_, rfl⟩
                    rw [← hX] at ci cu
                    have HQ := Lib.hid ((by
                      obtain ⟨F, hp⟩ := (L8.out.keptNo HK9.out).at
                      exact (pool_Quota h F S wr.drew (hp.keptNo (Kept.drew (Kept.refl _ _)))).mono (fun e w' ⟨h1, h2⟩ => ⟨h1, h2.symm⟩) : Calls Tryz.prog 12 #[.pointer (some ⟨h.p, 0, none⟩)] wr.drew fun e w' => e = .returned (.pointer (some ⟨h.t, 0, none⟩)) ∧ w' = wr.drew))
                    have HUS := Lib.hid ((by
                      obtain ⟨F, hp⟩ := (L8.out.keptNo HK9.out).at
                      exact pool_Use h F S X wr.drew (hp.keptNo (Kept.drew (Kept.refl _ _))) : Calls Tryz.prog 25 #[.pointer (some ⟨h.t, 0, none⟩), .int .i64 X] wr.drew fun e w' => e = .returned (.int .i64 (S.qs.use X)) ∧ Kept NoB wr.drew w'))
                    obtain ⟨U, hU⟩ : ∃ U, U = S.qs.use X := ⟨_, rfl⟩
                    rw [← hU] at HUS cu
                    clear hU hX hia hua
                    have hcu : Hid (∀ w', Kept NoB wr w' → w'.cell? ⟨g', i, none⟩ = some (.int .i64 U)) := fun w' k => (World.cell?_of_block (a := ⟨g', i, none⟩) (k.block g' hgl' (fun e => e))).trans cu
                    go_wp2
                    go_region_law (first
                      | (refine step_calls rfl 12 _ _ rfl (enters_of Tryz.func12 (by kernel_rfl) rfl) #[.pointer (some ⟨h.p, 0, none⟩)] (by simp [Act.eval, Act.put]) HQ.out ?_; rintro e w' ⟨rfl, rfl⟩; refine ⟨_, rfl, ?_⟩)
                      | (refine step_calls rfl 25 _ _ rfl (enters_of Tryz.func25 (by kernel_rfl) rfl) #[.pointer (some ⟨h.t, 0, none⟩), .int .i64 X] (by simp [Act.eval, Act.put]) HUS.out ?_; rintro e w10 ⟨rfl, k10⟩; have K10 := Lib.hid ((HK9.out.drew).trans k10); have cu2 := hcu.out w10 ((Kept.refl NoB wr).drew.trans k10); clear k10; refine ⟨_, rfl, ?_⟩))
                    all_goals
                      go_wp2
                      go_roundw
                      case rel => exact ⟨i + 1, by omega, by go_num, K10.out⟩
                      case measure => simp [intOf]; omega
                  · obtain rfl : i = ss.length := by omega
                    have L9 := Lib.hid (L8.out.keptNo HK9.out)
                    have HBB9 := Lib.hid (HBB8.out.kept HK9.out (fun _ _ e => e))
                    have K9 := Lib.hid (K8.out.trans HK9.out)
                    go_wp2_with (first
                      | (go_at_call 13; go_loud (obtain ⟨Fx, hx⟩ := L9.out.at; refine (pool_Blocks h Fx _ _ hx).mono ?_; rintro e w' ⟨rfl, rfl⟩; clear hx))
                      | (go_at_call 27; go_loud (obtain ⟨Fx, hx⟩ := L9.out.at; refine (pool_Free h Fx _ _ hx).mono ?_; rintro e w10 ⟨v9, l9, rfl, p1, p2, p3, p4, k9⟩; have HF9 := Lib.hid (And.intro p1 p2); have HR9 := Lib.hid (BkAt.of p3); have HBBA := Lib.hid (HBB9.out.kept k9 (fun _ _ e => e)); have K10 := Lib.hid (K9.out.trans k9); clear hx p1 p2 p3 p4 k9))
                      | (go_at_call 26; go_loud (refine (ref3_Same v9 vf l9 lf _ HR9.out HBBA.out.bk (HFN.out _ HF9.out.1) hlf).mono ?_; rw [HFL.out _ HF9.out.1 HF9.out.2]; rintro e w11 ⟨rfl, k11⟩; have K11 := Lib.hid (K10.out.trans k11); clear k11)))
                    go_ret
                    exact ⟨rfl, K11.out⟩
end Go.Proofs.YtbkliamhignmfaaGreatDoor
