/- Layer 6: what a pool's parts do, of the whole pool. -/
import Derived.Test.YtbkliamhignmfaaGreatDoorProg
import Derived.Test.YtbkliamhignmfaaGreatDoorPoolT
namespace Go.Proofs.YtbkliamhignmfaaGreatDoor
open Go.RowKit

theorem QF_keys {t mb : Nat} {bl : Int → Nat} {s q : QS} (h : q.fs.map (·.1) = s.fs.map (·.1)) (b : Nat) (hb : QF t mb bl q b) : QF t mb bl s b := by
  rcases hb with hb | hb | ⟨x, hx, hb⟩
  · exact .inl hb
  · exact .inr (.inl hb)
  · have : x.1 ∈ s.fs.map (·.1) := by rw [← h]; exact List.mem_map_of_mem hx
    obtain ⟨y, hy, e⟩ := List.mem_map.1 this
    exact .inr (.inr ⟨y, hy, by rw [hb, e]⟩)
theorem charge_keys (s : QS) (id n : Int) : (s.charge id n).2.fs.map (·.1) = s.fs.map (·.1) := by
  unfold QS.charge
  split
  · rfl
  · split
    · rfl
    · split
      · exact fset_keys _ _ _
      · rfl
theorem refund_keys (s : QS) (id n : Int) : (s.refund id n).2.fs.map (·.1) = s.fs.map (·.1) := by
  unfold QS.refund
  split
  · rfl
  · split
    · rfl
    · exact fset_keys _ _ _

theorem pool_Charge (h : PH) (F : Nat → Prop) (S : PS) (f n : Int) (w : World) (H : PoolAt w h F S) (hn : n ≤ 9223372036854775807) :
    Calls Tryz.prog 38 #[.pointer (some ⟨h.t, 0, none⟩), .int .i64 f, .int .i64 n] w fun e w' =>
      e = .returned (.int .i64 (S.qs.charge f n).1) ∧ PoolAt w' h (grow F w w') { S with qs := (S.qs.charge f n).2 } ∧ Kept F w w' := by
  obtain ⟨bl, v, cp, cq, P, hF⟩ := H.ex
  refine (quota_Charge h.t h.mb bl S.qs f n w P.q hn).mono ?_
  rintro e w' ⟨he, hq, K⟩
  exact ⟨he, H.tree P hF hq K (fun _ hb => hb) (fun b hb => .inl (QF_keys (charge_keys _ _ _) b hb))⟩
theorem pool_Refund (h : PH) (F : Nat → Prop) (S : PS) (f n : Int) (w : World) (H : PoolAt w h F S) (hn : n ≤ 9223372036854775807) :
    Calls Tryz.prog 40 #[.pointer (some ⟨h.t, 0, none⟩), .int .i64 f, .int .i64 n] w fun e w' =>
      e = .returned (.int .i64 (S.qs.refund f n).1) ∧ PoolAt w' h (grow F w w') { S with qs := (S.qs.refund f n).2 } ∧ Kept F w w' := by
  obtain ⟨bl, v, cp, cq, P, hF⟩ := H.ex
  refine (quota_Refund h.t h.mb bl S.qs f n w P.q hn).mono ?_
  rintro e w' ⟨he, hq, K⟩
  exact ⟨he, H.tree P hF hq K (fun _ hb => hb) (fun b hb => .inl (QF_keys (refund_keys _ _ _) b hb))⟩
theorem pool_Carve (h : PH) (F : Nat → Prop) (S : PS) (f n : Int) (w : World) (H : PoolAt w h F S) (hx : S.qs.next ≤ 1073741823) (hn : n ≤ 9223372036854775807) :
    Calls Tryz.prog 22 #[.pointer (some ⟨h.t, 0, none⟩), .int .i64 f, .int .i64 n] w fun e w' =>
      e = .returned (.tuple #[.int .i64 (S.qs.carve f n).1, .int .i64 (S.qs.carve f n).2.1]) ∧ PoolAt w' h (grow F w w') { S with qs := (S.qs.carve f n).2.2 } ∧ Kept F w w' := by
  obtain ⟨bl, v, cp, cq, P, hF⟩ := H.ex
  refine (quota_Carve h.t h.mb bl S.qs f n w P.q hx hn).mono ?_
  rintro e w' ⟨he, bl', hq, K, _, hN⟩
  exact ⟨he, H.tree P hF hq K (fun _ hb => hb) hN⟩
theorem pool_Use (h : PH) (F : Nat → Prop) (S : PS) (f : Int) (w : World) (H : PoolAt w h F S) :
    Calls Tryz.prog 25 #[.pointer (some ⟨h.t, 0, none⟩), .int .i64 f] w fun e w' => e = .returned (.int .i64 (S.qs.use f)) ∧ Kept NoB w w' := by
  obtain ⟨bl, v, cp, cq, P, hF⟩ := H.ex
  exact quota_Use h.t h.mb bl S.qs f w P.q

theorem PT.take {w : World} {h : PH} {bl : Int → Nat} {v : Nat → Value} {cp cq : Nat → Nat → Nat} {S : PS} (P : PT w h bl v cp cq S) {k : Nat} (k0 : 1 ≤ k) (k1 : k ≤ 7) (b : Nat) (hb : CF (h.c k) (v k) (cp k) (cq k) (S.cs k) b) : ¬ BF h.pb h.um S.bs.top h.bp h.bq b := fun e => by
  have := P.sep (k + 4) 2 b ⟨k0, k1, hb⟩ e
  omega

theorem pool_Take (h : PH) (F : Nat → Prop) (S : PS) (k : Nat) (k0 : 1 ≤ k) (k1 : k ≤ 7) (w : World) (H : PoolAt w h F S) :
    Calls Tryz.prog 39 #[.pointer (some ⟨h.c k, 0, none⟩)] w fun e w' =>
      ((S.cs k).take S.bs = none ∧ e = .returned (.tuple #[.int .i64 0, .int .i64 4]) ∧ Kept NoB w w') ∨
      ∃ a s' bs', (S.cs k).take S.bs = some (a, s', bs') ∧ e = .returned (.tuple #[.int .i64 (a : Nat), .int .i64 0]) ∧ PoolAt w' h (grow F w w') { S with bs := bs', cs := updC S.cs k s' } ∧ Kept F w w' := by
  obtain ⟨bl, v, cp, cq, P, hF⟩ := H.ex
  have hc := P.c k k0 k1
  cases ht : (S.cs k).take S.bs with
  | none =>
    obtain ⟨h1, h2⟩ := take_none_cases ht
    refine (slab_Take_none (h.c k) h.pb h.um (v k) (cp k) (cq k) h.bp h.bq (S.cs k) S.bs w hc P.b H.gl (roomL_none h1) h2).mono ?_
    rintro e w' ⟨he, K⟩
    exact .inl ⟨rfl, he, K⟩
  | some x =>
    obtain ⟨a, s', bs'⟩ := x
    have hgood := fun q => P.good.take k0 k1 ht q
    rcases take_cases ht with ⟨j, i, hj, hr, rfl, rfl, rfl⟩ | ⟨i, hr, hb, rfl, rfl⟩
    · obtain ⟨_, f1, f2, hi, hbit⟩ := roomL_some hr
      have hlt : i < 960 / (S.cs k).size := by rw [← hc.ok.many _ (List.getElem_mem hj)]; exact hi
      refine (slab_Take_old (h.c k) h.pb (v k) (cp k) (cq k) (S.cs k) w hc H.gl j hj f1 i f2 hlt).mono ?_
      rintro e w' ⟨he, hbm, K⟩
      have hset : setI (S.cs k).l[j].bits true (i : Nat) = (S.cs k).l[j].bits.set i true := setI_nat _ _ _ hi
      rw [hset] at hbm
      have hc' := hc.turn j hj _ (by simp) hbm K
      have hKG : ∀ b, b = cq k (S.cs k).l[j].at_ → CF (h.c k) (v k) (cp k) (cq k) (S.cs k) b := fun b hb => .inr (.inr ⟨_, List.getElem_mem hj, .inr hb⟩)
      have hbt := P.b.kept K (fun b hb e => P.take k0 k1 b (hKG b e) hb)
      refine .inr ⟨_, _, _, rfl, he, ?_⟩
      refine H.cache P hF k0 k1 hc' hbt rfl K (fun b hb => .inl (hKG b hb)) (fun b hb => .inl (CF_set hj hb)) (hgood S.qs)
    · obtain ⟨g1, g2, g3, g4, g5⟩ := take_good P.good.gb hb
      have hi0 : i < 1048576 := by
        have : 2 ^ S.bs.top ≤ 2 ^ 20 := Nat.pow_le_pow_right (by omega) P.b.ok.t1
        exact Nat.lt_of_lt_of_le g4 (Nat.le_trans this (by decide))
      refine (slab_Take_new (h.c k) h.pb h.um (v k) (cp k) (cq k) h.bp h.bq (S.cs k) S.bs w hc P.b H.gl (roomL_none hr) i bs' hb hi0 (fun p hp e => g2 (by rw [← e]; exact P.good.pg k k0 k1 p hp)) (fun b hb => P.take k0 k1 b hb)).mono ?_
      rintro e w' ⟨v', p', q', he, hbt, hct, hN, K⟩
      refine .inr ⟨_, _, _, rfl, he, ?_⟩
      refine H.cache P hF k0 k1 hct hbt g5 K (fun b hb => ?_) hN (hgood S.qs)
      rcases hb with hb | hb | hb
      · exact .inl (.inl hb)
      · exact .inl (.inr (.inl hb.symm))
      · exact .inr hb

theorem pool_Give (h : PH) (F : Nat → Prop) (S : PS) (k : Nat) (k0 : 1 ≤ k) (k1 : k ≤ 7) (a : Int) (ha : a ≤ 9223372036854775807) (w : World) (H : PoolAt w h F S) :
    Calls Tryz.prog 41 #[.pointer (some ⟨h.c k, 0, none⟩), .int .i64 a] w fun e w' =>
      e = .returned (.int .i64 ((S.cs k).give S.bs a).1) ∧ PoolAt w' h (grow F w w') { S with bs := ((S.cs k).give S.bs a).2.2, cs := updC S.cs k ((S.cs k).give S.bs a).2.1 } ∧ Kept F w w' := by
  obtain ⟨bl, v, cp, cq, P, hF⟩ := H.ex
  have hc := P.c k k0 k1
  have hgood := P.good.give k0 k1 hc.ok.rise a S.qs
  rcases give_cases (bs := S.bs) (a := a) hc.ok.rise with ⟨hs, eg⟩ | ⟨j, i, hj, hs, hb, ⟨hcn, eg⟩ | ⟨hcn, eg⟩⟩
  · rw [eg] at hgood ⊢
    refine (slab_Give_none (h.c k) h.pb (v k) (cp k) (cq k) (S.cs k) a w hc ha hs).mono ?_
    rintro e w' ⟨he, K⟩
    exact ⟨he, H.cache P hF k0 k1 (hc.keptNo K) (P.b.keptNo K) rfl K (fun _ e => e.elim) (fun b hb => .inl hb) hgood⟩
  · rw [eg] at hgood ⊢
    have hi : i < (S.cs k).l[j].bits.length := by
      apply Nat.lt_of_not_le; intro e
      rw [bit_past _ _ e] at hb; cases hb
    refine (slab_Give_last (h.c k) h.pb h.um (v k) (cp k) (cq k) h.bp h.bq (S.cs k) S.bs a w hc P.b (fun b hb => P.take k0 k1 b hb) ha j i hs hj hcn hi).mono ?_
    rintro e w' ⟨he, ⟨v', hc', hN⟩, hbt, K⟩
    exact ⟨he, H.cache P hF k0 k1 hc' hbt (give_top _ _) K (fun b hb => hb) (fun b hb => .inl (hN b hb)) hgood⟩
  · rw [eg] at hgood ⊢
    have hi : i < (S.cs k).l[j].bits.length := by
      apply Nat.lt_of_not_le; intro e
      rw [bit_past _ _ e] at hb; cases hb
    refine (slab_Give_keep (h.c k) h.pb (v k) (cp k) (cq k) (S.cs k) a w hc ha j i hs hj hcn hi).mono ?_
    rintro e w' ⟨he, hc', K⟩
    have hKG : ∀ b, b = cq k (S.cs k).l[j].at_ → CF (h.c k) (v k) (cp k) (cq k) (S.cs k) b := fun b hb => .inr (.inr ⟨_, List.getElem_mem hj, .inr hb⟩)
    exact ⟨he, H.cache P hF k0 k1 hc' (P.b.kept K (fun b hb e => P.take k0 k1 b (hKG b e) hb)) rfl K (fun b hb => .inl (hKG b hb)) (fun b hb => .inl (CF_set hj hb)) hgood⟩

theorem pool_slabHas (h : PH) (F : Nat → Prop) (S : PS) (k : Nat) (k0 : 1 ≤ k) (k1 : k ≤ 7) (a : Int) (ha : a ≤ 9223372036854775807) (w : World) (H : PoolAt w h F S) :
    Calls Tryz.prog 42 #[.pointer (some ⟨h.c k, 0, none⟩), .int .i64 a] w fun e w' => e = .returned (.bool ((S.cs k).has a)) ∧ Kept NoB w w' := by
  obtain ⟨bl, v, cp, cq, P, hF⟩ := H.ex
  exact slab_Has (h.c k) h.pb (v k) (cp k) (cq k) (S.cs k) a w (P.c k k0 k1) ha
theorem pool_slabUsed (h : PH) (F : Nat → Prop) (S : PS) (k : Nat) (k0 : 1 ≤ k) (k1 : k ≤ 7) (w : World) (H : PoolAt w h F S) :
    Calls Tryz.prog 43 #[.pointer (some ⟨h.c k, 0, none⟩)] w fun e w' =>
      ∃ v, e = .returned v ∧ w'.ownsRow w.heap.size 3 1 v (S.cs k).places.length ((S.cs k).places.map (Value.int .i64)) ∧ Kept NoB w w' := by
  obtain ⟨bl, v, cp, cq, P, hF⟩ := H.ex
  exact slab_Used (h.c k) h.pb (v k) (cp k) (cq k) (S.cs k) w (P.c k k0 k1) H.gl
theorem pool_Fill (h : PH) (F : Nat → Prop) (S : PS) (at_ n : Int) (c : Nat) (hc : c < 256) (w : World) (H : PoolAt w h F S) (hi : inA S.N at_ n) :
    Calls Tryz.prog 18 #[.pointer (some ⟨h.ap, 0, none⟩), .int .i64 at_, .int .i64 n, .int .u8 c] w fun e w' =>
      e = .returned (.int .i64 0) ∧ PoolAt w' h F { S with m := fillm S.m at_.toNat n.toNat c } ∧ Kept F w w' := by
  obtain ⟨bl, v, cp, cq, P, hF⟩ := H.ex
  refine (arena_Fill h.ap h.aq S.N S.m at_ n c hc w P.a hi).mono ?_
  rintro e w' ⟨he, ha, K⟩
  exact ⟨he, H.mem ha K⟩
theorem pool_Load (h : PH) (F : Nat → Prop) (S : PS) (at_ : Int) (w : World) (H : PoolAt w h F S) (hi : inA S.N at_ 8) (ha : at_ % 8 = 0) :
    Calls Tryz.prog 17 #[.pointer (some ⟨h.ap, 0, none⟩), .int .i64 at_] w fun e w' =>
      e = .returned (.tuple #[.int .u64 (ldw S.m at_.toNat : Nat), .int .i64 0]) ∧ w = w' := by
  obtain ⟨bl, v, cp, cq, P, hF⟩ := H.ex
  exact arena_Load h.ap h.aq S.N S.m at_ w P.a hi ha

theorem PoolAt.cells {w : World} {h : PH} {F : Nat → Prop} {S : PS} (H : PoolAt w h F S) : Blk w h.p (pocells h) TPool := by
  obtain ⟨bl, v, cp, cq, P, hF⟩ := H.ex
  exact P.hp
theorem PoolAt.good {w : World} {h : PH} {F : Nat → Prop} {S : PS} (H : PoolAt w h F S) : S.good := by
  obtain ⟨bl, v, cp, cq, P, hF⟩ := H.ex
  exact P.good
theorem PoolAt.sok {w : World} {h : PH} {F : Nat → Prop} {S : PS} (H : PoolAt w h F S) (k : Nat) (k0 : 1 ≤ k) (k1 : k ≤ 7) : (S.cs k).ok := by
  obtain ⟨bl, v, cp, cq, P, hF⟩ := H.ex
  exact (P.c k k0 k1).ok
theorem PoolAt.qok {w : World} {h : PH} {F : Nat → Prop} {S : PS} (H : PoolAt w h F S) : S.qs.ok := by
  obtain ⟨bl, v, cp, cq, P, hF⟩ := H.ex
  exact P.q.ok
end Go.Proofs.YtbkliamhignmfaaGreatDoor
